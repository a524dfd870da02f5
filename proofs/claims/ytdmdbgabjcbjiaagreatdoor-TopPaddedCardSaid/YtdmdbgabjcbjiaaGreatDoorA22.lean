import Derived.Test.YtdmdbgabjcbjiaaGreatDoorA20
import Derived.Test.YtdmdbgabjcbjiaaGreatDoorA21
set_option maxHeartbeats 0
set_option maxRecDepth 100000
set_option linter.all false
namespace Go.Proofs.YtdmdbgabjcbjiaaGreatDoor
open Go.RowKit fD cr hs a7 _root_.Go.Proofs.Tryz
variable{aM:cr.dU}{O D:Nat->aK}{y:Qak}{zc:Qab}{b L z zx n g zr zt zu zs f P zq:Nat}{A:Qai}{zh:Qaj}{G:Option Nat}{e u zb:N}{v:Qas}{J zi:aq}{F:gz}{zv c I:List aE}{j i:Int}{h:aD}{r K:Prop}{k:af}{q:bx}{B:Nat->Nat->Nat->Int}{s:cS}{w:Nat->Option Addr}{H zy x:Nat->Nat}{za:aj}{zl m:Nat->aq}{zn zo:Bool}{E:Qat}{zw:Qaq}{zm:Qad}
theorem Jb{d:Qav}{f:Qax}{c:Act}{h:Qau}{T:Qat}{g:Nat}{aL:Qad}(k:bT d T aL.size)(s:∀a,aM.r e a->a.rangeAt g L aL.toList)(n:cB f y c)(r:f.op=.load T h)(j:c.eval h=.pointer (some ⟨g,L,none⟩)) (m:ba aM d y zc b A zh (c.put f.dst (aL)) e):ba aM d y zc b ((f,0)::A) zh c e:=by obtain⟨i,l,o,p⟩:=k;refine W0 _ n (λa q=>?_) m;have:=run_loadAt_mid (P:=d) a g L T aL.toList i (s a q) l (by cases i<;>first|rfl|cases o) mY;exact EY
theorem U9{a:Qax}{c:Act}{T:Qat}{parts:Array (Nat×Operand)}(f:Qad)(h:ba aM prog y zc b A zh (c.put a.dst (f)) e)(o:a.op=.build T parts:=by rfl)(d:prog.built T (parts.map λ(i,l)=>(i,c.eval l)).toList=some f:=by kernel_rfl) (g:(match a.dst with|some j=>decide (j<c.tmps.size)|none=>false)=true:=by rfl) (m:jK a=true:=by rfl) (k:cB a y c:=by rfl):ba aM prog y zc b ((a,0)::A) zh c e:=JY (f) g m k (λq _ p n=>q0 T parts o wa (by rw[d];exact n.out)) h
def vG(b:Nat):List Addr:=(List.range 11).map λa=>⟨b,142+a,none⟩
section
variable {zj:af}{e zb:N}{Q F P zC zB:Nat}{T:Qat}{d:bJ}{w zD:Qae}
theorem yE(a:ag e Q T (dH d w F P)):e.cell? ⟨Q,142+z,none⟩=(d.k1 w F P)[7+z]? :=by rw[a.au,show 142+z=135+(7+z)from Z];exact iv (7+z)
theorem aiS(c:ag e Q T (dH d w F P))(g:ag zb Q T (dH d zD zC zB))(h:V zj e zb):(rM zj (vG Q)).r e zb:=⟨h,λi f _=>by
 obtain⟨b,a,rfl⟩:=ca.1 f;rw[yE g,yE c];match b,fq.1 a with
 |0,_|1,_|2,_|3,_|4,_|5,_|6,_|7,_|8,_|9,_|10,_=>rfl⟩
theorem U'(g:ag e Q T (dH d w F P)){a:Nat}{v:Qas}(f:a<11)(h:(d.k1 w F P)[7+a]? =some v):∀b,(rM zj (vG Q)).r e.drew b->b.cell? ⟨Q,142+a,none⟩=some v:=λ_ c=>D7 c (ca.2 ⟨a,fq.2 f,rfl⟩) ((yE g).trans h)
theorem Va(h:ag e Q T (dH d w F P)):∀b,(rM zj (vG Q)).r e b->b.rangeAt Q 148 (al d.fb d.cn).toList:=λb f a i c=>by
 have g:a<5:=by have:=(e8.1 c).1;exact this
 have:=D7 (v:=i) f (ca.2 ⟨6+a,fq.2 Z,rfl⟩) ((yE h).trans (by
  match a,g with
  |0,_|1,_|2,_|3,_|4,_=>exact c))
 rwa[show 142+(6+a)=148+a from Z]at this
theorem aiT(h:ag e Q T (dH d w F P)):∀b,(rM zj (vG Q)).r e b->b.rangeAt Q 143 (al d.gY d.gZ).toList:=λb f a i c=>by
 have g:a<5:=by have:=(e8.1 c).1;exact this
 have:=D7 (v:=i) f (ca.2 ⟨1+a,fq.2 Z,rfl⟩) ((yE h).trans (by
  match a,g with
  |0,_|1,_|2,_|3,_|4,_=>exact c))
 rwa[show 142+(1+a)=143+a from Z]at this
end
theorem Jc(b:N)(e:af)(h:Nat)(a:bJ)(i:List aE)(l:af)(f:bU)(c:Nat)(m k:Int)(p:Nat)(g:aq)(o:aK)(j:cS)(n:dP)(q t s r:Nat)(B:a.rs=some ⟨q,t,none⟩)(A:a.ru=some ⟨s,r,none⟩)(z:c<a.n/\a.n<=256)(D:(c:Int)-a.fst=k)(x:0<=a.fst/\a.fst<=256)(u:dX e b b [] h a i l f)(aU:fL l f)(y:dD)(F:i.length<=18) (w:∀d,V e b d->d.rangeAt q (t+c*5) (al g o).toList/\d.cell? ⟨s,r+c,none⟩=some (.int .i64 m)) (E:∀d,V e b d->f d->nE d a m k p g o j n):Calls prog 49 #[ab h,X c,bI j n] b (Dp e h a i l f m k p g j b):=by
 cases C:a.cF
 .exact air b e h a i l f c m k p g o j n q t s r C B A z D x u aU y F w E
 .cases G:a.dj
  .exact aiR b e h a i l f c m k p g o j n q t s r C G B A z D x u aU y F w E
  .exact aiQ b e h a i l f c m k p g o j n q t s r C G B A z D x u aU y F w E
def bJ.ref(a:bJ)(b:aq)(c:aK):bJ:={a with gY:=a.fb,gZ:=a.cn,fb:=b,cn:=c}
def aiU(j:af)(q k:Nat)(a g:bJ)(l:List aE)(f:Nat->aq)(e:Nat->aK)(b:Nat)(n o:Int)(r:Nat)(h:aq)(m:cS)(set:Bool)(i:N)(p:N):Prop:=∃(d:List aE)(c:aq)(a7:aK),kW a n o r h m d c/\d.length<=2/\g=(if set=true then a.ref c a7 else a)/\dX j i p [(k,71,fu a.n (aJ f b c) (aJ e b a7))] q g (l++d) (j8 a.n (aJ e b a7)) (jI a.n (aJ f b c) (aJ e b a7))
theorem Vb(h:N)(m:af)(k l:Nat)(a:bJ)(f:List aE)(g:Nat->aq)(c:Nat->aK)(d:Nat)(q w:Int)(z:Nat)(s:aq)(y:aK)(D E B A:Nat)(zn:a.sZ=some ⟨l,0,none⟩)(zB:a.rs=some ⟨D,E,none⟩)(zi:a.ru=some ⟨B,A,none⟩)(P:d<a.n/\a.n<=256)(zD:(d:Int)-a.fst=w)(ze:0<=a.fst/\a.fst<=256)(zv:dX m h h [(l,71,fu a.n g c)] k a f (j8 a.n c) (jI a.n g c))(zy:dD)(zu:f.length<=18) (zw:∀e,V m h e->e.rangeAt D (E+d*5) (al s y).toList/\e.cell? ⟨B,A+d,none⟩=some (.int .i64 q)) (zl:∀e,V m h e->jI a.n g c e->nE e a q w z s y ⟨a.fb,bL,bL⟩ ⟨a.cn,bR,bR⟩):Calls prog 48 #[ab k,X d] h λI zx=>I=.returned (.tuple #[])/\∃W,aiU m k l a W f g c d q w z s ⟨a.fb,bL,bL⟩ true h zx:=by
 obtain⟨zA,zr,zo,zb,zp,zF,b,p,zC⟩:=zv;simp only[dZ,cU]at b;have zm:=Y λe j f(n:dX j e e [] k a f (j8 a.n c) (jI a.n g c))(zf:f.length<=18)(r:∀J,V j e J->V m h J)=>Jc e j k a f (j8 a.n c) (jI a.n g c) d q w z s y ⟨a.fb,bL,bL⟩ ⟨a.cn,bR,bR⟩ D E B A zB zi P zD ze n rz zy zf (λo x=>zw o (r o x)) (λo x u=>zl o (r o x) u);have zh:=Y p;have zs:=Y zC;have O:=Y zn;have za:=Y zu;have C:=Y P.1;have zJ:(d:Int)<(a.n:Int):=Z;have zI:(a.n:Int)<=256:=Z;go_in;go_wp2_with fail
 have F:=λj=>U' (zj:=j) (b.ai 1 rfl) (a:=0) (v:=.slice (ab l) a.n a.qe) R (aX (λp=>some (Value.slice p a.n a.qe)) O.out);replace b:=b.bd;have n:dX m h _ [(l,71,fu a.n g c)] k a f (j8 a.n c) (jI a.n g c):=⟨zA,zr,zo,zb,zp,zF,b,zh.out,zs.out⟩;obtain⟨j,zq,r,K⟩:=n.aW;replace F:=F j;refine ly (aM:=rM j (vG k)) [] (.inr rfl) [0,1,2,3,4,5,6,7,8,9,10,11,112,13,214] ?_;refine to ?_;refine Jb (aL:=al a.fb a.cn) aB (Va (b.ai 1 rfl)) rfl rfl rfl ?_;simp only[az];refine U9 (bI ⟨a.fb,bL,bL⟩ ⟨a.cn,bR,bR⟩) ?_;simp only[az];have zN:=b.ai 1 rfl;refine bN (zm.out _ j f zq za.out r) ?_;rintro I zG ⟨t,i,a7,rfl,zc,zt,L⟩;have zaA:=L.yu;refine Jd 1 λzW zX zal zan zam zao b z8 z'=>?_;have G:=Y (And.intro zc zt);have zz:=Y z8;have zE:=Y z';simp only[dZ,cU]at b;refine ax ?_;refine el λQ H=>?_;refine b.stM 0 (al i a7) (fu a.n (aJ g d i) (aJ c d a7)) aB (bo _ _) ?_ (d:=d*5) (t:=U0 C.out) (u:=by rw[Dr];show d*5+5<=a.n*5;have:=C.out;omega);intro zH b;refine H _ _ ?_;clear H Q;refine ax ?_;go_wp2_with fail
 have zL:=b.cl 1 142 (v:=.slice (ab l) a.n a.qe) (g:=by exact(iv 7).trans (aX (λp=>some (Value.slice p a.n a.qe)) O.out));replace b:=b.bd;refine rg [] [0,301,2,3,4,5,6,7,8,9,10,11,12,13,14,215,16,17,218] ?_;refine lx ?_;refine b.hZ 1 (al a.fb a.cn) aB ?_ (o:=by exact aij);refine vZ ?_;refine b.hZ 0 (al i a7) aB ?_ (d:=d*5) (o:=by have:=yB (c:=aJ g d i) (w:=aJ c d a7) C.out;simp only[sV]at this;exact this);refine ax ?_;refine b.ik 1 (al a.fb a.cn) (dH {a with gY:=a.fb,gZ:=a.cn} zW (f++t).length zX) aB (bo _ _) ?_ (e:=143) (s:=UK) (u:=by rw[mQ];exact c9 rfl);intro zK b;refine ax ?_;refine b.ik 1 (al i a7) (dH (a.ref i a7) zW (f++t).length zX) aB (bo _ _) ?_ (e:=148) (s:=UL) (u:=by rw[mQ];exact c9 rfl);intro zd b;refine ax ?_;go_wp2_with fail
 refine jw (jW rfl _ _ _) rfl ⟨rfl,_,t,i,a7,G.out.1,G.out.2,rfl,?_⟩;have n:dX m h zd [(l,71,fu a.n (aJ g d i) (aJ c d a7))] k (a.ref i a7) (f++t) _ _:=⟨zW,zX,zal,zan,zam,zao,b,zz.out,zE.out⟩;exact n.less rz (λzj zk=>UZ zj zk) λe u=>UY u.1 u.2
theorem mR{α:Type}{a:α}{b:Prop}(i:(none:Option α)=some a):b:=l'
def ei(a:Nat->aq):Option Nat->aq
 |none=>bL
 |some L=>a L
def iT(a:Nat->aK):Option Nat->aK
 |none=>bR
 |some L=>a L
def vH(b:Nat->aq)(a:gz):cS:=⟨ei b a.hK,ei b a.hL,bL⟩
def hq(b:gz):List aE:=match b.kQ with
 |some (c,a)=>[.aA c a]
 |none=>[]
def qi(b:Nat->List aE)(c:List gz):List aE:=.aQ::(c.map λa=>hq a++b a.n).flatten
def c6.e5(a:c6)(b:Nat):Option Nat:=if b=1/\a.dF=0 then none else a.b1
def c6.gC(a:c6)(c b:Nat):Nat:=if b=1 then c-a.dF else a.first
def c6.hn(a:c6)(c b:Nat):c6:=⟨a.e5 b,some c,a.gC c b,a.dF,a.out++[⟨c,b,c-a.gC c b,a.e5 b,none,if b=1 then some (a.dF==0,c-a.dF)else none⟩]⟩
def c6.si(a:c6)(b:Nat):c6:={a with out:=a.out++[⟨b,3,b-a.first,a.ed,a.b1,none⟩]}
def c6.ln(b:c6)(a:Nat):Nat->c6
 |0=>b
 |z+1=>(b.ln a z).si (a+z)
theorem s4(a:c6)(c:Nat):∀b,a.ln c b={a with out:=a.out++(List.range b).map λd=>⟨c+d,3,c+d-a.first,a.ed,a.b1,none⟩}
 |0=>by simp[c6.ln]
 |b+1=>by rw[c6.ln,s4 a c b,c6.si,mm,hf,<-b5];rfl
theorem aiV(a:c6)(c b:Nat)(d:b≠3):a.step c b={(a.hn c b).ln (c-a.dF) a.dF with dF:=0}:=by rw[s4];unfold c6.step;rw[M d];simp only[c6.hn,c6.e5,c6.gC,b5,List.singleton_append]
theorem vI(b:af):∀a,(bt b a).out.length+(bt b a).dF=a
 |0=>rfl
 |a+1=>by
  have d:=vI b a;rw[bt];by_cases c:b.getD a 0=3
  .rw[c,c6.step,ae rfl];simp only;omega
  .rw[c6.step,M c];simp only[aZ,cz,ju,nP];omega
theorem Vc(b:af):∀a,(bt b a).first+(bt b a).dF<=a
 |0=>a' _
 |a+1=>by
  have d:=Vc b a;have e:=vI b a;rw[bt];by_cases c:b.getD a 0=3
  .rw[c,c6.step,ae rfl];simp only;omega
  .rw[c6.step,M c];simp only;split<;>omega
theorem Je(b:af)(d:b.getD 0 0≠3):∀a,0<a->∃e,(bt b a).b1=some e
 |0,f=>absurd f (lf _)
 |a+1,_=>by
  rw[bt];by_cases c:b.getD a 0=3
  .rw[c,c6.step,ae rfl];refine Je b d a (Nat.pos_of_ne_zero λE=>?_);rw[E]at c;exact d c
  .rw[c6.step,M c];exact⟨a,rfl⟩
theorem Jf(d:af):∀a b,a-(bt d a).dF<=b->b<a->d.getD b 0=3
 |0,_,_,f=>absurd f (fT _)
 |a+1,b,c,g=>by
  rw[bt]at c;by_cases e:d.getD a 0=3
  .rw[e,c6.step,ae rfl]at c;simp only at c;by_cases E:b=a
   .rw[E];exact e
   .exact Jf d a b Z Z
  .rw[c6.step,M e]at c;simp only at c;omega
structure gM(f:bJ)(j:Nat->aq)(k:Nat)(e:Nat->Prop)(b:c6)(l:bJ)(h:List aE)(d:Nat->aq)(i:Nat->aK):Prop where
 qj:l={f with gY:=ei d b.ed,gZ:=iT i b.ed,fb:=ei d b.b1,cn:=iT i b.b1,fst:=(b.first:Int)}
 it:∃g:Nat->List aE,h=qi g b.out/\∀c∈b.out,kW f c.t c.aa k (j c.n) (vH d c) (g c.n) (d c.n)
 len:h.length<=1+3*b.out.length
 u:∀c∈b.out,e c.n/\(∀a,c.hK=some a->e a)/\∀a,c.hL=some a->e a
 kl:(∀a,b.ed=some a->e a)/\∀a,b.b1=some a->e a
 s5:∀a,b.ed=some a\/b.b1=some a->(d a).Ok/\((d a).w:Int)=f.s.W/\((d a).h:Int)=f.s.H
section
variable {a d:bJ}{t:Nat->aq}{g:Nat}{p zz:Nat->Prop}{o:c6}{c:List aE}{m:Nat->aq}{D:Nat->aK}
theorem gM.mono(e:gM a t g p o d c m D)(h:∀b,p b->zz b):gM a t g zz o d c m D:=⟨e.qj,e.it,e.len,λi j=>⟨h _ (e.u i j).1,λb f=>h _ ((e.u i j).2.1 b f),λb f=>h _ ((e.u i j).2.2 b f)⟩,⟨λb f=>h _ (e.kl.1 b f),λb f=>h _ (e.kl.2 b f)⟩,e.s5⟩
theorem aiW:gM a t g p ⟨none,none,0,0,[]⟩ {a with gY:=bL,gZ:=bR,fb:=bL,cn:=bR,fst:=0} [.aQ] m D:=⟨rfl,⟨λ_=>[],rfl,λ_ b=>absurd b (eC)⟩,R,λ_ b=>absurd b (eC),⟨λ_ b=>mR b,λ_ b=>mR b⟩,λ_ b=>by rcases b with b|b<;>exact mR b⟩
theorem gM.dF(b:gM a t g p o d c m D)(e:Nat):gM a t g p {o with dF:=e} d c m D:=⟨b.qj,b.it,b.len,b.u,b.kl,b.s5⟩
theorem s6(d:∀a,G=some a->p a)(c:¬p b):ei (aJ m b J) G=ei m G:=by
 cases G with
 |none=>rfl
 |some a=>exact M (show¬a=b from λe=>c (e▸d a rfl))
theorem Jg{e:aK}(d:∀a,G=some a->p a)(c:¬p b):iT (aJ D b e) G=iT D G:=by
 cases G with
 |none=>rfl
 |some a=>exact M (show¬a=b from λf=>c (f▸d a rfl))
theorem aiX{a:Nat->List aE}{c:List gz}(d:∀b∈c,b.n≠F.n):qi (aJ a F.n zv) (c++[F])=qi a c++(hq F++zv):=by unfold qi;rw[hf,List.flatten_append,dZ,oC (g:=λF=>hq F++a F.n) λb e=>by simp only[aJ,M (d b e)]];simp only[cj,ee,Dt,HL,eG,aJ,ae]
theorem Vd(l:¬p b)(n:gM a t g p o d c m D){i:gz}(r:i.n=b)(s:(∀f,i.hK=some f->p f)/\∀f,i.hL=some f->p f){u:List aE}(z:kW a i.t i.aa g (t b) (vH m i) u J):(∃q:Nat->List aE,c++(hq i++u)=qi q (o.out++[i])/\∀e∈o.out++[i],kW a e.t e.aa g (t e.n) (vH (aJ m b J) e) (q e.n) (aJ m b J e.n))/\∀e∈o.out++[i],(p e.n\/e.n=b)/\(∀f,e.hK=some f->p f\/f=b)/\∀f,e.hL=some f->p f\/f=b:=by
 obtain⟨q,j,x⟩:=n.it;have w:∀e∈o.out,e.n≠i.n:=λe h j=>l (by rw[<-r,<-j];exact(n.u e h).1);refine⟨⟨aJ q i.n u,by rw[aiX w,j],λe h=>?_⟩,λe h=>?_⟩
 .rcases bc.1 h with h|h
  .have k:=n.u e h;have y:e.n≠b:=r▸w e h;unfold vH;rw[s6 k.2.1 l,s6 k.2.2 l];simp only[aJ,M (w e h),M y];exact x e h
  .rw[df.1 h];unfold vH;rw[s6 s.1 l,s6 s.2 l];simp only[aJ,r,ae];exact z
 .rcases bc.1 h with h|h
  .have k:=n.u e h;exact⟨.inl k.1,λf j=>.inl (k.2.1 f j),λf j=>.inl (k.2.2 f j)⟩
  .rw[df.1 h];exact⟨.inr r,λf j=>.inl (s.1 f j),λf j=>.inl (s.2 f j)⟩
def bJ.l7(a:bJ)(d b c:Nat):bJ:=if b=1 then a.kQ d c else a
def kX(c b a:Nat):List aE:=if b=1 then[.aA (a==0) (c-a)]else[]
theorem Jh(k:gM a t g p o d c m D){e b:Nat}(l:o.dF<=e):d.l7 e b o.dF={a with gY:=(d.l7 e b o.dF).gY,gZ:=(d.l7 e b o.dF).gZ,fb:=ei m (o.e5 b),cn:=iT D (o.e5 b),fst:=((o.gC e b:Nat):Int)}:=by
 have j:=k.qj;unfold bJ.l7 bJ.kQ c6.e5 c6.gC;by_cases f:b=1
 .by_cases h:o.dF=0
  .simp only[ae f,ae h,ae (And.intro f h)];rw[j,h];simp only[ei,iT];congr 1
  .simp only[ae f,M h,M (show¬(b=1/\o.dF=0)from λi=>h i.2)];rw[j];simp only;congr 1;omega
 .simp only[M f,M (show¬(b=1/\o.dF=0)from λi=>f i.1)];rw[j]
theorem vJ(f:gM a t g p o d c m D){h:Nat}:∀b,o.e5 h=some b->p b:=λb e=>by
 unfold c6.e5 at e;split at e
 .exact mR e
 .exact f.kl.2 b e
theorem Ve(i:gM a t g p o d c m D){b e:Nat}(y:o.dF+o.first<=b)(k:¬p b){l:List aE}{j:aq}{a7:aK}(q:kW a e ((b-o.gC b e:Nat):Int) g (t b) ⟨ei m (o.e5 e),bL,bL⟩ l j)(x:l.length<=2)(ak:(j.w:Int)=a.s.W/\(j.h:Int)=a.s.H):gM a t g (λh=>p h\/h=b) (o.hn b e) ((d.l7 b e o.dF).ref j a7) ((c++kX b e o.dF)++l) (aJ m b j) (aJ D b a7):=by
 have n:=Vd k i (i:=⟨b,e,b-o.gC b e,o.e5 e,none,if e=1 then some (o.dF==0,b-o.dF)else none⟩) rfl ⟨vJ i,λ_ f=>mR f⟩ q;have u:hq ⟨b,e,b-o.gC b e,o.e5 e,none,if e=1 then some (o.dF==0,b-o.dF)else none⟩=kX b e o.dF:=by
  unfold hq kX;by_cases r:e=1
  .simp only[ae r]
  .simp only[M r]
 rw[u]at n;refine⟨?_,?_,?_,n.2,⟨λh f=>.inl (vJ i h f),λh f=>.inr (mc f).symm⟩,λh f=>?_⟩
 .unfold bJ.ref;rw[Jh i Z];simp only[c6.hn];rw[s6 (vJ i) k,Jg (vJ i) k];simp only[ei,iT,aJ,ae]
 .rw[b5];exact n.1
 .have:=i.len;have w:(kX b e o.dF).length<=1:=by unfold kX;split<;>simp
  simp only[c6.hn,aZ,cz,dv];omega
 .rcases f with f|f
  .have f:o.e5 e=some h:=f;have:h≠b:=λs=>k (s▸vJ i h f);unfold aJ;rw[M this];refine i.s5 h (.inr ?_);unfold c6.e5 at f;split at f
   .exact mR f
   .exact f
  .obtain rfl:b=h:=mc f;simp only[aJ,ae];exact⟨q.2.2.1,ak⟩
theorem aiY(b:gM a t g p o d c m D){f:Nat}(i:¬p f){j:List aE}{k:aq}{a7:aK}(q:kW a 3 ((f-o.first:Nat):Int) g (t f) ⟨ei m o.ed,ei m o.b1,bL⟩ j k)(s:j.length<=2):gM a t g (λe=>p e\/e=f) (o.si f) d (c++j) (aJ m f k) (aJ D f a7):=by
 have l:=Vd i b (i:=⟨f,3,f-o.first,o.ed,o.b1,none⟩) rfl b.kl q;refine⟨?_,l.1,?_,l.2,⟨λe h=>.inl (b.kl.1 e h),λe h=>.inl (b.kl.2 e h)⟩,λe h=>?_⟩
 .rw[b.qj];simp only[c6.si];rw[s6 b.kl.1 i,s6 b.kl.2 i,Jg b.kl.1 i,Jg b.kl.2 i]
 .have:=b.len;simp only[c6.si,aZ,cz,dv];omega
 .have r:e≠f:=λn=>i (n▸(h.elim (b.kl.1 e) (b.kl.2 e)));unfold aJ;rw[M r];exact b.s5 e h
end
theorem Ji:∀(b:af)(a:Nat),(bM a b).length<=2*b.length
 |[],_=>a' _
 |P::A,a=>by
  rw[bM];split
  .have:=Ji A (if P=0 then 1 else 0);simp only[cz];omega
  .have:=Ji A (if P=0 then a+1 else 0);simp only[cz];omega
theorem Vf(a:Nat×List Nat):(gu a).length<=4+2*a.2.length:=by have:=Ji a.2 0;unfold gu;simp only[cz];omega
theorem Vg{b:List (List Nat)}{c:Nat}(d:∀e∈b,e.length<=c):∀a,a<=b.length->(gi b a).length<=a*(4+2*c)
 |0,_=>by simp[gi]
 |a+1,i=>by
  have h:=Vg d a Z;have f:=Vf (1+a,b.getD a []);have g:(b.getD a []).length<=c:=by rw[b9,cu Z,lE];exact d _ (la _)
  rw[sK,aZ,ia];simp only at f;omega
theorem aiZ(a:aD)(b:aE):(gu (hM a b)).length<=506:=by
 have g:=Vf (hM a b);have c:∀d:Qah,d.length<=2000->(bh d).length<=251:=λd j=>CA;have:(hM a b).2.length<=251:=by
  cases b with
  |aQ=>exact c _ HB
  |aA f h=>exact c _ Hz
  |cD e i=>exact c _ HA
 omega
def pd(b:aD)(a:aE):Nat:=(jE b a).length
theorem Jj{a:aE}(b:∀c∈a.bE,c.length<=zx):pd h a<=506+a.bE.length*(4+2*zx):=by have d:=aiZ h a;have e:=Vg b a.bE.length (a' _);unfold pd jE;rw[aZ];omega
theorem Vh{c:aD}{b:List aE}:∀a,a<=b.length->(ek c b (λ_=>0) a).length=((b.take a).map (pd c)).sum
 |0,_=>by simp[ek]
 |a+1,d=>by
  rw[ek,aZ,Vh a Z,AA,hf,Jk];congr 1;have E:b[a]? =some (bq b a):=by unfold bq;rw[b9,cu Z,lE]
  rw[E];simp[pd]
theorem Vi{b:gz->List aE}{a:aE->Nat}{e:Nat}:∀{c:List gz},(∀F∈c,((b F).map a).sum<=e)->(((c.map b).flatten).map a).sum<=c.length*e
 |[],_=>U
 |F::A,d=>by have h:=d F (hd ..);have i:=Vi (c:=A) (b:=b) (a:=a) λf g=>d f (hQ _ g);rw[cj,Dt,hf,Jk,cz,ia];omega
theorem Vj(a:r:=by obtain⟨G,t,j,o⟩:=n d b;exact⟨G,Z,Z,λh g c=>by have:=o h g c;omega⟩):r:=a
theorem Du{e:af}{i:Nat}(k:∀f,f<i->1<=e.getD f 0/\e.getD f 0<=3):∀a,a<=i->∀d∈(bt e a).out,(1<=d.t/\d.t<=3)/\d.aa<=a/\d.n<a/\∀j m,d.kQ=some (j,m)->m<=a
 |0,_,d,b=>absurd b (eC)
 |a+1,r,d,b=>by
  have n:=Du k a Z;have q:=vI e a;have p:=k a Z;rw[bt]at b;by_cases l:e.getD a 0=3
  .rw[l,c6.step,ae rfl]at b;exact Vj
  .rw[c6.step,M l]at b;simp only[bc,bu,ca,fq]at b;rcases b with b|rfl|⟨u,s,rfl⟩
   .exact Vj
   .refine⟨p,Dv,Dv,λh g c=>?_⟩;simp only at c;split at c
    .simp only[iA,th]at c;omega
    .exact mR c
   .exact⟨⟨c9 rfl,c9 rfl⟩,Dv,Dv,λh g c=>mR c⟩
theorem Vk(e:ho h)(a:bx):fo h a<=4/\(a.s≠3->fo h a<=2)/\1<=fo h a\/a.s≠3/\h.b8=false:=by
 have d:=e.v;unfold et at d;unfold fo cc;by_cases b:a.s=3
 .rw[ae b];exact .inl ⟨Z,λc=>absurd b c,Z⟩
 .rw[M b];cases c:h.b8
  .exact .inr ⟨b,rfl⟩
  .have:=d.2.2.2.2.2.2.1 c;exact .inl ⟨Z,λ_=>Z,Z⟩
theorem Jl{b:Bool}{a:Nat}(c:g<=4):(e4 h q b n g B a).length<=12502:=by have:=Cr (bD h q b) (B a) (n:Int) g;unfold e4 iL;rw[r2,aZ,kh];omega
theorem rA{a:bJ}{c:Bool}:(kv a q c g B).bE.length=fo a.s q/\∀d∈(kv a q c g B).bE,∃b,d=e4 a.s q c a.q g B b:=by unfold kv;refine⟨by simp only[aE.bE,ju,nP],λd e=>?_⟩;obtain⟨b,_,f⟩:=ca.1 e;exact⟨b,f.symm⟩
theorem Jm{a:bJ}{b:Bool}(h:g<=4):pd a.s (kv a q b g B)<=506+fo a.s q*25008:=by
 obtain⟨e,f⟩:=rA (a:=a) (q:=q) (c:=b) (g:=g) (B:=B);have:=Jj (h:=a.s) (a:=kv a q b g B) (zx:=12502) λd c=>by obtain⟨i,rfl⟩:=f d c;exact Jl h
 rw[e]at this;exact this
theorem Jn{a:bJ}{c:Bool}(p:ho a.s)(k:rc q)(i:1<=fo a.s q/\fo a.s q<=4)(m:g<=4):gW a.s (kv a q c g B):=by
 obtain⟨d,o⟩:=rA (a:=a) (q:=q) (c:=c) (g:=g) (B:=B);refine⟨p,(show(0:Nat)<16777216 from c9 rfl),λj f b=>?_,λj f b=>?_⟩
 .unfold kv at b;cases b;exact k
 .have b:(kv a q c g B).bE=f:=by rw[b];rfl
  rw[<-b];refine⟨λh=>by rw[h]at d;simp at d;omega,by rw[d];exact i.2,λn l=>?_⟩;obtain⟨e,rfl⟩:=o n l;have:=Jl (h:=a.s) (q:=q) (b:=c) (n:=a.q) (B:=B) (a:=e) m;exact⟨⟨c9 rfl,c9 rfl,tJ _,.inr (uu _),by show(e4 a.s q c a.q g B e).length<=1073741824;omega⟩,Ru _⟩
section
variable {a:bJ}{t m:Nat->aq}{g:Nat}{j i:Int}{zi J:aq}{s:cS}{I:List aE}
theorem ai0(f:ho a.s)(z:a.s.b8=true\/(a.cF=false/\a.dj=true))(q:1<=j/\j<=3)(p:0<=i/\i<=1023)(e:g<=4)(n:kW a j i g zi s I J):I.length<=2/\(I.map (pd a.s)).sum<=101044/\∀k∈I,gW a.s k:=by
 cases m:a.cF
 .obtain⟨w,_,rfl⟩:=n.1 m;have d:=(Vk f (gB a j i)).resolve_right λb=>b.1 rfl;have:=Jm (a:=a) (q:=gB a j i) (b:=false) (B:=w) e;refine⟨U,Vl,λk h=>?_⟩;rw[df.1 h];exact Jn f ⟨q,⟨I4,I5⟩,p⟩ ⟨d.2.2,d.1⟩ e
 .obtain⟨r,t,K,C,_,_,rfl,_⟩:=n.2.1 m;have A:=z.resolve_right λb=>by rw[m]at b;exact Bool.noConfusion b.1
  have o:∀c,c<=1->rc (cG a j i c)/\(fo a.s (cG a j i c)<=4/\((cG a j i c).s≠3->fo a.s (cG a j i c)<=2)/\1<=fo a.s (cG a j i c))/\(cG a j i c).s≠3:=λc E=>by refine⟨⟨q,⟨I7,I8⟩,p⟩,(Vk f (cG a j i c)).resolve_right λb=>by rw[A]at b;exact Bool.noConfusion b.2,by show 1+(c:Int)≠3;omega⟩
  have x:a.dG<=1:=Jo;obtain⟨B,d,u⟩:=o a.dG x;obtain⟨y,l,aU⟩:=o (1-a.dG) Z;have F:=d.2.1 u;have D:=l.2.1 aU;have H:=Jm (a:=a) (q:=cG a j i a.dG) (b:=false) (B:=r) e;have G:=Jm (a:=a) (q:=cG a j i (1-a.dG)) (b:=true) (B:=t) e;refine⟨U,Vl,λk h=>?_⟩;rcases bu.1 h with rfl|h
  .exact Jn f B ⟨d.2.2,d.1⟩ e
  .rw[df.1 h];exact Jn f y ⟨l.2.2,l.1⟩ e
theorem Vm{p:Nat->Prop}{j:c6}{E:bJ}(x:gM a t g p j E c m D)(r:ho a.s)(J:a.s.b8=true\/(a.cF=false/\a.dj=true))(K:g<=4)(C:∀b∈j.out,(1<=b.t/\b.t<=3)/\b.aa<=100/\∀n l,b.kQ=some (n,l)->l<=100)(s:j.out.length<=4):(ek a.s c (λ_=>0) c.length).length<=1048576/\c.length<=64/\0<c.length/\∀b,b<c.length->gW a.s (bq c b):=by
 obtain⟨o,d,F⟩:=x.it;have A:∀b∈j.out,(o b.n).length<=2/\((o b.n).map (pd a.s)).sum<=101044/\∀k∈o b.n,gW a.s k:=λb h=>by have B:=C b h;exact ai0 r J Z Z K (F b h)
 have w:∀b∈j.out,((hq b).map (pd a.s)).sum<=506/\∀k∈hq b,gW a.s k:=λb h=>by
  unfold hq;split
  .rename_i n l d;have B:=(C b h).2.2 n l d;have:=Jj (h:=a.s) (a:=.aA n l) (zx:=0) λG u=>absurd u (eC);refine⟨by simp only[cj,ee,Jp,List.sum_nil];simpa[aE.bE]using this,λk i=>?_⟩;rw[df.1 i];exact⟨r,by show l<16777216;omega,λq p d=>aE.noConfusion d,λq p d=>aE.noConfusion d⟩
  .exact⟨U,λk i=>absurd i (eC)⟩
 have zb:=x.len;have L:0<c.length:=by rw[d];unfold qi;simp
 refine⟨?_,Z,L,λb h=>?_⟩
 .rw[Vh _ (a' _),wK,d];unfold qi;rw[cj,Jp];have H:=Jj (h:=a.s) (a:=.aQ) (zx:=0) λG u=>absurd u (eC);have Q:pd a.s .aQ<=506:=by simpa[aE.bE]using H
  have P:=Vi (c:=j.out) (b:=λb=>hq b++o b.n) (a:=pd a.s) (e:=101550) λb h=>by have O:=(A b h).2.1;have B:=(w b h).1;rw[hf,Jk];omega
  have za:j.out.length*101550<=4*101550:=ix _ s;omega
 .have i:bq c b∈c:=by unfold bq;rw[b9,cu h,lE];exact la _
  refine aG (bq c b) λk I=>?_;rw[I]at i⊢;rw[d]at i;unfold qi at i;rcases bu.1 i with e|e
  .rw[e];exact Vn
  .obtain⟨W,s,e⟩:=List.mem_flatten.1 e;obtain⟨y,z,rfl⟩:=ca.1 s;rcases bc.1 e with e|e
   .exact(w y z).2 _ e
   .exact(A y z).2.2 _ e
end
theorem Jq{c:Bool}{d:Nat}{e:aq}{t:dP}{F:Qae}{x:Nat}(zb:dA u)(K:dD)(p:fI h q c)(l:o1 h q c s)(L:1<=n/\n<=31)(zc:h.W/16=(g:Int))(P:cc h q/16=(d:Int))(zk:(e.w:Int)=h.W)(zl:(e.h:Int)=cc h q)(k:sX h q c n g d e s B J)(ze:oZ u F ((List.range d).map (e4 h q c n g B))):De u h c (ct q F d x) s t J d:=by
 intro G y D;obtain⟨za,I,zd,rfl,w,E⟩:=ze.ad y;have O:((List.range d).map (e4 h q c n g B)).length=d:=by rw[ju,nP]
 have C:∀a,a<d->((List.range d).map (e4 h q c n g B)).getD a []=e4 h q c n g B a:=λa i=>by simp[b9,i]
 rw[O]at w E;have r:∀b,b<d->∀a,a<g->dV (bD h q c) (B b a)/\om (bD h q c) s (B b a) a b:=λb l a i=>⟨(k.2.2.2.2 b l a i).1,(k.2.2.2.2 b l a i).2.1⟩;have z:=agM G h q c s t n g d za x B I (λa=>(((List.range d).map (e4 h q c n g B)).getD a []).length) zd (zb.ad y) K p l D L zc P (λb j a i=>(r b j a i).1) (λb j a i=>(r b j a i).2) w (λb j=>⟨by
  have:=E b j;rw[C b j]at this⊢;exact this,by
  rw[C b j];have Q:=p.aQ.v;unfold et at Q;have:=Jl (h:=h) (q:=q) (b:=c) (n:=n) (B:=B) (a:=b) (g:=g) Z;omega⟩)
 obtain⟨zf,zn,zo⟩:=It p l.bp;have v:=k.2.1;have m:=k.2.2.1;have o:=k.2.2.2.1;have W:(dl e.w e.h 0 0 0).dd:=⟨sg (m▸v.gG) (m▸v.fH) (m▸v.kC) (o▸v.iY) (o▸v.fr) (o▸v.he) R R R,show e.w%16=0 from m▸v.eN,show e.h%16=0 from o▸v.ev⟩;have zh:(jZ h q s.bp).w/16=g:=Z;have H:(jZ h q s.bp).h/16=d:=Z;have A:=abv (c:=jZ h q s.bp) (l:=dl e.w e.h 0 0 0) (i:=λb a=>im (bD h q c) h q.a n (B b a) s a b) zf W (by show e.w= _;omega) (by show e.h= _;omega) λb a zj zm=>vo p.nV D (r b Z a Z).2;rw[zh,H]at A;rw[A]at z;have zi:J=ew (dl e.w e.h 0 0 0) (λb a=>im (bD h q c) h q.a n (B b a) s a b) g d:=k.1;rw[zi];exact z
structure qk(a:bJ)(c e:Int)(m:Nat)(d:aq)(b:cS):Prop where
 aQ:ho a.s
 s0:1<=c/\c<=3
 yA:0<=e/\e<=1023
 b8:a.s.b8=true\/(a.cF=false/\a.dj=true)
 rv:1<=a.q/\a.q<=31
 ry:d.Ok
 hw:(d.w:Int)=a.s.W
 kV:(d.h:Int)=a.s.H
 hm:a.s.W/16=(m:Int)
 bp:li b.bp a.s.W a.s.H
 bP:li b.bP a.s.W a.s.H
 t1:c≠1->b.bp.w≠0
 t3:c=3->b.bP.w≠0
 bs:b.bs=bL
structure Vo(a:aD)(b:bx)(c:Bool)(yw:Nat)(d:aq)(e:cS):Prop where
 pc:fI a b c
 yx:o1 a b c e
 hw:(d.w:Int)=a.W
 kV:(d.h:Int)=cc a b
 vE:cc a b/16=(yw:Int)
 kN:1<=yw/\yw<=64
section
variable {d:bJ}{j i:Int}{g:Nat}{t:aq}{s:cS}
theorem qk.whole(a:qk d j i g t s):d.cF=false->Vo d.s (gB d j i) false (fo d.s (gB d j i)) t s:=λ_=>by have e:cc d.s (gB d j i)=d.s.H:=UT;have f:=a.aQ.v;unfold et at f;exact⟨⟨a.aQ,⟨a.s0,⟨I4,I5⟩,a.yA⟩,a.b8.imp id λc=>⟨rfl,c.2,rfl⟩,λb=>Bool.noConfusion b⟩,⟨a.bp,a.bP,.inl (by rw[a.bs];rfl),a.t1,a.t3,λ_ b=>Bool.noConfusion b⟩,a.hw,by rw[e];exact a.kV,vF,vF⟩
theorem qk.Vp(b:qk d j i g t s)(l:d.cF=true):t.gQ/\t.h%32=0:=by have c:=b.aQ.v;unfold et at c;have a:=b.kV;exact UR
theorem qk.s3(b:qk d j i g t s)(l:d.cF=true){c:Nat}(u:c<=1)(f:Bool)(a:aq)(h:li a d.s.W (d.s.H/2))(r:f=true->a.w≠0):Vo d.s (cG d j i c) f (fo d.s (cG d j i c)) (cL t c) {s with bs:=a}:=by refine UU λm e o=>?_;unfold et at o;obtain⟨x,y⟩:=b.Vp l;obtain⟨C,p,w⟩:=lJ (c:=c) x u;refine I6 λk=>?_;have B:=b.kV;have z:=b.ry.iY;exact⟨⟨b.aQ,⟨b.s0,⟨I7,I8⟩,b.yA⟩,.inl k,λ_=>m⟩,⟨b.bp,b.bP,h,b.t1,b.t3,λ_ q=>r q⟩,by rw[p];exact b.hw,by rw[e,w];omega,vF,vF⟩
end
theorem ai1{a:bJ}{F:aq}(C:dA u)(z:dD)(b:qk a j i g F s)(B:kW a j i g F s I J)(D:∀A,A<I.length->oZ u (w A) (bq I A).bE)(c:N)(q x:Nat)(f k:aK)(n:V [] u c) (E:∀d,d<I.length->c.rangeAt q (d*8) (ct (bq I d).ej (w d) (bq I d).bE.length (H d)).toList) (P:aT c s.bp f) (W:aT c s.bP k):Calls prog 36 #[ay a.s,.slice (ab q) I.length x,al s.bp f,al s.bP k] c (vx J c):=by
 have K:s=⟨s.bp,s.bP,eR⟩:=by have G:=b.bs;cases s;simp only at G;rw[G];rfl
 cases o:a.cF
 .obtain⟨zj,zd,rfl⟩:=B.1 o;have h:=b.whole o;have ak:=Jq (F:=w 0) (x:=H 0) (t:=⟨f,k,cN⟩) (u:=c) (C.ad n) z h.pc h.yx b.rv b.hm h.vE h.hw h.kV zd ((D 0 U).ad n);rw[K]at ak;exact aht c a.s q x (gB a j i) (w 0) (fo a.s (gB a j i)) (H 0) s.bp s.bP J f k (fo a.s (gB a j i)) h.pc rfl (by have:=E 0 U;have p:=(rA (a:=a) (q:=gB a j i) (c:=false) (g:=g) (B:=zj)).1;simp only[bq,Jr,p]at this;exact this) P W ak B.2.2.1 h.kN
 .obtain⟨zc,ze,t,y,l,r,rfl,zn⟩:=B.2.1 o;have Q:a.dG<=1:=Jo;obtain⟨za,zp⟩:=b.Vp o;have zy:=lJ (c:=a.dG) za Q;have zr:=lJ (c:=1-a.dG) za Z;have m:=b.s3 o Q false bL (.inl rfl) (λp=>Bool.noConfusion p);have zu:=l.2.2.1;have zs:=l.2.2.2.1;have zt:=r.2.2.1;have zo:=r.2.2.2.1;have zv:=b.kV;have zw:=b.hw;have zx:=b.ry.fr;have e:=b.s3 o (c:=1-a.dG) Z true t (.inr ⟨l.2.1.toOk,Z,Z⟩) (λ_=>by have:=l.2.1.gG;omega);have zq:({s with bs:=bL}:cS)=⟨s.bp,s.bP,eR⟩:=rfl;have zi:=Jq (F:=w 0) (x:=H 0) (t:=⟨f,k,cN⟩) (u:=c) (C.ad n) z m.pc m.yx b.rv b.hm m.vE m.hw m.kV (by rw[K]at l;exact l) ((D 0 U).ad n);have L:=λd=>Jq (F:=w 1) (x:=H 1) (t:=⟨f,k,d⟩) (u:=c) (C.ad n) z e.pc e.yx b.rv b.hm e.vE e.hw e.kV r ((D 1 U).ad n);have zk:fo a.s (cG a j i (1-a.dG))=fo a.s (cG a j i a.dG):=by unfold fo cc;rw[M (show(cG a j i (1-a.dG)).s≠3 by show 1+((1-a.dG:Nat):Int)≠3;omega),M (show(cG a j i a.dG).s≠3 by show 1+(a.dG:Int)≠3;omega)]
  have zm:=(rA (a:=a) (q:=cG a j i a.dG) (c:=false) (g:=g) (B:=zc)).1;have O:=(rA (a:=a) (q:=cG a j i (1-a.dG)) (c:=true) (g:=g) (B:=ze)).1;rw[zk]at L O;have zf:oW (cG a j i a.dG)=true:=by unfold oW cG bJ.dG;cases a.dj<;>rfl
  have zl:lZ (cG a j i a.dG) (cG a j i (1-a.dG))=true:=by unfold lZ cG bJ.dG;cases a.dj<;>simp
  have zh:=ahv c a.s q x (cG a j i a.dG) (cG a j i (1-a.dG)) (w 0) (w 1) (fo a.s (cG a j i a.dG)) (H 0) (fo a.s (cG a j i a.dG)) (H 1) s.bp s.bP t y f k (fo a.s (cG a j i a.dG)) m.pc ⟨e.pc.aQ,e.pc.ej,e.pc.b8,λp=>Bool.noConfusion p⟩ zf zl (by
   have:=E 0 U;simp only[bq,Jr,zm]at this;exact this) (by
   have:=E 1 U;simp only[bq,List.getD_cons_succ,Jr,O]at this;exact this) P W zi (λd=>L d) l.2.1.toOk r.2.1.toOk ⟨Z,Z,Z⟩ m.kN
  have zb:(if(cG a j i a.dG).s=2 then gH y t else gH t y)=J:=by rw[zn];unfold cG bJ.dG;cases a.dj<;>rfl
  rw[<-zb];exact zh
def h5(l:aD)(i h j:Bool)(b a e k c f d bw g:Nat):bJ:=⟨l,i,h,j,b,a,some ⟨e,k,none⟩,c,some ⟨f,d,none⟩,bw,some ⟨g,0,none⟩,a,bL,bR,bL,bR,0⟩
theorem ai2(l:aD)(i h j:Bool)(b a e k c f d bw g:Nat):prog.built 126 [(0,.agg (ay l)),(1,.agg #[.bool i,.bool h,.bool j]),(2,.int .i64 (b:Int)),(3,.slice (some ⟨e,k,none⟩) a c),(4,.slice (some ⟨f,d,none⟩) a bw),(6,.slice (ab g) a a)]=some (dH (h5 l i h j b a e k c f d bw g) none 0 0):=ar
def Vq:bJ:=⟨b6,false,false,false,0,0,none,0,none,0,none,0,bL,bR,bL,bR,0⟩
theorem ai3:dJ 126 (.agg (dH Vq none 0 0)):=dM
theorem ai4(d:bJ)(c:Qae)(b a:Nat):bT prog 126 (dH d c b a).size:=by rw[mQ];exact⟨_,underlying126,rfl,ar⟩
theorem ai5(c:bJ)(e:Qae)(f d:Nat):(dH c e f d).all (·.oneCell')=true:=by
 have b:=pu c.s;rw[kw]at b⊢;intro v a;simp only[dH,k0,u',bc]at a;rcases a with a|a
 .exact b v (by simpa[ay]using a)
 .simp[bJ.k1,al]at a;rcases a with rfl|rfl|rfl|rfl|rfl|rfl|rfl|rfl|rfl|rfl|rfl|rfl|rfl|rfl|rfl|rfl|rfl|rfl|rfl<;>rfl
theorem ai6{r:Nat}{c:Qax}{a:Act}{u:Qab}{t q s p x w:Qau}(k:aD)(n i o:Bool)(g b d j l m h bw f:Nat)(D:ba (bA []) prog y u r A zh (a.put c.dst (dH (h5 k n i o g b d j l m h bw f) none 0 0)) e)(J:c.op=.build 126 #[(0,t),(1,q),(2,s),(3,p),(4,x),(6,w)]:=by rfl) (L:a.eval t=.agg (ay k):=by rfl) (B:a.eval q=.agg #[.bool n,.bool i,.bool o]:=by rfl) (F:a.eval s=X g:=by rfl) (K:a.eval p=.slice (some ⟨d,j,none⟩) b l:=by rfl) (E:a.eval x=.slice (some ⟨m,h,none⟩) b bw:=by rfl) (G:a.eval w=.slice (ab f) b b:=by rfl) (z:(match c.dst with|some C=>decide (C<a.tmps.size)|none=>false)=true:=by rfl) (I:jK c=true:=by rfl) (H:cB c y a:=by rfl):ba (bA []) prog y u r ((c,0)::A) zh a e:=ra _ D J (by simp only[gm,cj,ee,L,B,F,K,E,G];exact ai2 k n i o g b d j l m h bw f) z I H
theorem ai7:madeCells (Value.cells (.agg eh)) (0*5)=fu 0 (λ_=>bL) (λ_=>bR):=ar
theorem ai8:madeCells (Value.cells (.agg eh)) (1*5)=fu 1 (λ_=>bL) (λ_=>bR):=ar
theorem ai9:madeCells (Value.cells (.agg eh)) (2*5)=fu 2 (λ_=>bL) (λ_=>bR):=ar
theorem aja:madeCells (Value.cells (.agg eh)) (3*5)=fu 3 (λ_=>bL) (λ_=>bR):=ar
theorem ajb:madeCells (Value.cells (.agg eh)) (4*5)=fu 4 (λ_=>bL) (λ_=>bR):=ar
theorem ajc(a:b<=4):madeCells (Value.cells (.agg eh)) (b*5)=fu b (λ_=>bL) (λ_=>bR):=by
 match b,a with
 |0,_=>exact ai7
 |1,_=>exact ai8
 |2,_=>exact ai9
 |3,_=>exact aja
 |4,_=>exact ajb
theorem vK{c:Nat->aq}(d:jI b c O e)(f:∀a,G=some a->a<b):aT e (ei c G) (iT O G):=by
 cases G with
 |none=>exact yC
 |some a=>exact d a (f a rfl)
theorem Vr{b:Nat->aq}(c:∀a,G=some a->(b a).Ok/\((b a).w:Int)=h.W/\((b a).h:Int)=h.H):li (ei b G) h.W h.H:=by
 cases G with
 |none=>exact .inl rfl
 |some a=>exact .inr (c a rfl)
theorem Vs{b:Nat->aq}(d:aT e (ei b G) (iT O G))(f:∀a,G=some a->(b a).Ok):∀c∈bg (iT O G),c<e.heap.size:=by
 cases G with
 |none=>intro c g;simp[iT,bg,bR]at g
 |some a=>exact d.fv (f a rfl)
theorem Vt(b a c:Nat):(kX b a c).length<=1:=by unfold kX;split<;>simp
theorem Dw{y:Nat->aK}(k:pZ e h zr zt zu zs b za zl y zn zo)(H:dA e){f:bJ}(I:f.s=h/\f.cF=zn/\f.dj=zo)(F:1<=f.q/\f.q<=31){u:Nat}(P:h.W/16=(u:Int)){a:Nat}(p:a<b){l r:Int}(O:1<=l/\l<=3)(K:0<=r/\r<=1023){c:Nat->aq}{n:Nat->aK}{i j:Option Nat} (q:∀a,i=some a->(c a).Ok/\((c a).w:Int)=h.W/\((c a).h:Int)=h.H) (s:∀a,j=some a->(c a).Ok/\((c a).w:Int)=h.W/\((c a).h:Int)=h.H) (D:l≠1->∃a,i=some a) (L:l=3->∃a,j=some a) (w:aT e (ei c i) (iT n i)) (x:aT e (ei c j) (iT n j)):nE e f l r u (zl a) (y a) ⟨ei c i,ei c j,bL⟩ ⟨iT n i,iT n j,bR⟩:=by
 obtain⟨rfl,rfl,rfl⟩:=I;obtain⟨A,E,J⟩:=k.f.ok a p;have G:=k.aQ.v;unfold et at G;have B:∀m:Option Nat,(∃a,m=some a)->(∀a,m=some a->(c a).Ok/\((c a).w:Int)=f.s.W/\((c a).h:Int)=f.s.H)->(ei c m).w≠0:=λm ⟨z,d⟩ C=>by have:=(C z d).1.gG;rw[d];show(c z).w≠0;omega
 refine⟨k.aQ,O,K,k.b8.imp id λt=>⟨t.2.1,t.2.2⟩,H,F,A,E,J,Z,k.f.is a p,Vr q,Vr s,λd=>B i (D d) q,λd=>B j (L d) s,⟨w,x,yC⟩,⟨rfl,rfl⟩,λo g=>?_⟩;simp only[bc]at g;rcases g with g|g|g
 .exact(k.f.is a p).fv A o g
 .exact Vs w (λa d=>(q a d).1) o g
 .exact Vs x (λa d=>(s a d).1) o g
theorem ajd{q:Func}{c d b:Nat}{o n p:Tmp}{g:Int}{f h:Qae}{l m j k:Nat}(s:q.results=#[.cell o 35,.cell n 27,.cell p 36]){a:Qad}(t:ag e c 35 #[.slice f l m])(x:ag e d 27 #[.slice h j k])(C:ag e b 36 #[X g]) (y:a.getD o undef=ab c) (w:a.getD n undef=ab d) (i:a.getD p undef=ab b):(results q a).run prog e=.ok (.tuple #[.slice f l m,.slice h j k,X g]) e:=by
 have F:a[o]?.getD undef=ab c:=by simpa using y
 have E:a[n]?.getD undef=ab d:=by simpa using w
 have r:a[p]?.getD undef=ab b:=rJ;have D:e.cell? ⟨c,0,none⟩=some (.slice f l m):=t.au 0;have u:e.cell? ⟨d,0,none⟩=some (.slice h j k):=x.au 0;have B:e.cell? ⟨b,0,none⟩=some (.int .i64 g):=C.au 0;have A:(loadVar 35 ⟨c,0,none⟩).run prog e=.ok (.slice f l m) e:=by simp[loadVar,D,go_sem]
 have z:(loadVar 27 ⟨d,0,none⟩).run prog e=.ok (.slice h j k) e:=by simp[loadVar,u,go_sem]
 have G:(loadVar 36 ⟨b,0,none⟩).run prog e=.ok (X g) e:=by simp[loadVar,B,go_sem]
 simp[results,s,F,E,r,asAddr,A,z,G]
def Dx(i:aD)(A t B:Bool)(n a k u w y r bw q:Nat)(o:Nat->aq)(j:af)(d:N)(p:Ending)(c:N):Prop:=∃(b h s:Nat)(g:List aE)(z:Nat->Option Addr)(l:Nat->Nat)(e:Nat->aq)(f:Nat->aK)(m:bJ),p=.returned (.tuple #[.slice (ab h) g.length s,.slice (ab b) a a,X 0])/\gM (h5 i A t B n a k u w y r bw b) o q (λx=>x<a) (bt j a) m g e f/\jG c i h g z l (λ_=>0)/\ag c b 71 (fu a e f)/\jI a e f c/\V [] d c/\d.heap.size<=h/\d.heap.size<=b
theorem Vu(a:r:=by
 have zco:=Y zbm;have zcN:=Y z8;have zcS:=Y z';clear L K E zp zbm z8 z' zas zat zaq zau zax zba zi;simp only[dZ,cU]at b;refine ax ?_;refine el λzO zo=>?_;refine b.stM 5 (al P a7) (fu c (aJ A l P) (aJ I l a7)) aB (bo _ _) ?_ (d:=l*5) (t:=U0 zS) (u:=by rw[Dr];show l*5+5<=c*5;omega);clear b;intro zcd b;refine zo _ _ ?_;clear zo zO;try simp only[az]
 refine ax ?_;go_wp2_with fail
 have zE:dX [] zm zcd [(zu,26,ay h),(zx,79,#[.bool o,.bool r,.bool n]),(zb,35,#[.slice none 0 0]),(zd,27,#[.slice none 0 0]),(zc,36,#[X 0]),(k,71,fu c (aJ A l P) (aJ I l a7))] J cY (zl++zaO) _ _:=⟨zW,zX,zal,zan,zam,zao,b,zcN.out,zcS.out⟩;have zcm:=aiY (f:=l) (a7:=a7) zM.out (by show¬(l<l\/l=a);have:=zR.out;have:=zY.out;have:=Q.out;omega) zI.out zco.out;exact⟨⟨m+1,zl++zaO,aJ A l P,aJ I l a7,Z,by have:=zY.out;go_num,Y (by rw[c6.ln,zY.out];exact zcm.mono λi zJ=>by have:=zY.out;have zJ:(i<l\/i=a)\/i=l:=zJ;show i<W+(m+1)\/i=a;omega),Y (zE.less rz (λi zJ=>UZ i zJ) λzF p=>UY p.1 p.2)⟩,bF⟩):r:=a
theorem Vv(b:Nat)(a:bj b->r:=by
 intro zcO;have za3:¬((l:Int)<(a:Int)):=by have:=zR.out;have:=Q.out;omega
 obtain rfl:j=m:=Z;go_wp2_with fail
 have zaN:bt e (a+1)={((bt e a).hn a zcO).ln W j with dF:=0}:=by rw[bt,za2.out.1,aiV _ _ _ R,zs.out,zR.out]
 exact⟨⟨a+1,cY,zl,A,I,Z,a8,by rw[zaN];rfl,Y (by rw[zaN];exact(zM.out.dF 0).mono λi zJ=>by have:=zY.out;have:=zR.out;have:=Q.out;have zJ:i<l\/i=a:=zJ;show i<a+1-0;omega),zbj⟩,bF⟩):r:=a ⟨⟩
theorem Vw(a:r:=by exact⟨0,zbG,zbC,zbu,Z,by rw[fs],Y (by rw[fs,<-zR.out];exact zv.out),zt⟩):r:=a
theorem Vx(a:Nat)(c:K)(b:bj a->cZ K->r:=by intro zaT zca;have zi:=Y (show cY.gY=ei A ((bt e a).e5 zaT)/\cY.gZ=iT I ((bt e a).e5 zaT)/\cY.fb=ei A (some a)/\cY.cn=iT I (some a) by rw[C];exact⟨rfl,rfl,rfl,rfl⟩);have zad:=Y (show(∀i,(bt e a).e5 zaT=some i->(A i).Ok/\((A i).w:Int)=h.W/\((A i).h:Int)=h.H)/\∀i,some a=some i->(A i).Ok/\((A i).w:Int)=h.W/\((A i).h:Int)=h.H by have zQ:=zM.out.s5;rw[s4]at zQ;exact⟨λi g=>zQ i (.inl g),λi g=>zQ i (.inr g)⟩);have zaM:=Y (show zl.length<=16 by have zQ:=zM.out.len;rw[s4]at zQ;simp only[c6.hn,aZ,cz,dv,ju,nP]at zQ;have:=Q.out;have:=za.out;omega);have za0:=Y (show(bt e a).gC a zaT<=l by unfold c6.gC;have:=Q.out;have:=zR.out;have:=zY.out;have:=zs.out;split<;>omega);have zy:=λzf=>U' (zj:=zf) (b.ai 6 rfl) (a:=0) (v:=.slice (ab k) c c) R (by have zaI:(cY.k1 zaz zl.length zn)[7]? =some (.slice cY.sZ cY.n cY.qe):=rfl;rw[zaq.out.1,zaF.out,zaq.out.2]at zaI;exact zaI);revert zi zad zaM za0 zy;exact zca.out):r:=b ⟨⟩ ⟨c⟩
theorem Vy(a:K)(b:K->r:=by
 intro zcn;have zae:D.s=h/\D.cF=o/\D.dj=n:=by rw[C];exact⟨rfl,rfl,rfl⟩
 have zac:D.q=p:=ov;have zA:D.n=c:=ov;have zag:D.sZ=some ⟨k,0,none⟩:=ov;have zah:D.rs=some ⟨u,y,none⟩:=ov;have zai:D.ru=some ⟨x,w,none⟩:=ov;revert zae zac zA zag zah zai;exact zcn):r:=b a
theorem Vz(a:K)(b:K->r:=by intro zb6;replace b:=b.bd;have zE:dX [] zm _ [(zu,26,ay h),(zx,79,#[.bool o,.bool r,.bool n]),(zb,35,#[.slice none 0 0]),(zd,27,#[.slice none 0 0]),(zc,36,#[X 0]),(k,71,fu c A I)] J cY zl (j8 c I) (jI c A I):=⟨zaz,zn,zaL,zB,zK,zak,b,zar.out,zaY.out⟩;obtain⟨zf,zL,E,K⟩:=zE.aW;replace zy:=zy zf;have zN:=b.ai 6 rfl;refine ly (aM:=rM zf (vG J)) [] (.inr rfl) [0,1,2,3,4,5,6,7,8,109,10,211] ?_;refine lx ?_;refine Jb (aL:=al cY.gY cY.gZ) aB (aiT zN) rfl rfl rfl ?_;refine lv ?_;refine Jb (aL:=al cY.fb cY.cn) aB (Va zN) rfl rfl rfl ?_;simp only[az];refine U9 (bI ⟨cY.gY,cY.fb,bL⟩ ⟨cY.gZ,cY.cn,bR⟩) ?_;simp only[az];revert b zE zf zL E K zy zN;exact zb6):r:=b a
theorem VA(a:Nat)(c:K)(b:bj a->K->r:=by intro zce zcj;obtain⟨zf,L,E,K⟩:=zaV.out.aik (x:=[(zu,26,ay h),(zx,79,#[.bool o,.bool r,.bool n]),(zb,35,#[.slice none 0 0]),(zd,27,#[.slice none 0 0]),(zc,36,#[X 0])]) (w:=[(k,71,fu c t B)]);have C:=za6.out;refine aG (F.l7 a zce j) λD zP=>?_;revert zf L E K C D zP;exact zcj):r:=b ⟨⟩ c
theorem VB(a:K)(b:cZ K->r:=by
 intro zcV;have za3:(l:Int)<(a:Int):=by have:=zR.out;have:=Q.out;omega
 have zS:l<c:=Z;obtain⟨zaz,zn,zaL,zB,zK,zak,b,zaj,za5⟩:=zbj.out;have zar:=Y zaj;have zaY:=Y za5;clear zaj za5;simp only[dZ,cU]at b;have C:=zM.out.qj;rw[s4]at C;have zas:=Y (show cY.s=h/\cY.cF=o/\cY.dj=n by rw[C];exact⟨rfl,rfl,rfl⟩);have zat:=Y (show cY.q=p from ov);have zaF:=Y (show cY.n=c from ov);have zaq:=Y (show cY.sZ=some ⟨k,0,none⟩/\cY.qe=c from Js);have zau:=Y (show cY.rs=some ⟨u,y,none⟩from ov);have zax:=Y (show cY.ru=some ⟨x,w,none⟩from ov);revert za3 zS zaz zn zaL zB zK zak zar zaY b C zas zat zaF zaq zau zax;exact zcV.out):r:=b ⟨a⟩
theorem VC(a:Nat)(c:K)(b:bj a->cZ K->r:=by intro zct zcT;have zaQ:=Y (show¬(λm=>m<a-j) a by show¬a<a-j;omega);have zaX:=Y (show(bt e a).gC a zct<=a by unfold c6.gC;have:=Q.out;split<;>omega);revert zaQ zaX;exact zcT.out):r:=b ⟨⟩ ⟨c⟩
theorem VD(zm:N)(h:aD)(u y x w c H bw ze p:Nat)(zaS:aj)(zh:Nat->aq)(zav:Nat->aK)(o r n:Bool)(e:af)(zaw:pZ zm h u y x w c zaS zh zav o n)(zbh:∀a,a<c->((e.getD a 0:Nat):Int)=zaS a)(zbU:1<=p/\p<=31)(zbz:dA zm)(zbT:dD)(zcQ:c<=4)(zE:h.W/16=(ze:Int)):Calls prog 18 #[ay h,.slice (some ⟨u,y,none⟩) c H,.slice (some ⟨x,w,none⟩) c bw,.agg #[.bool o,.bool r,.bool n],X p] zm (Dx h o r n p c u y H x w bw ze zh e zm):=by
 have zcD:=Y λzF(d:V [] zm zF)=>ae3 zF h u y x w c H bw zaS zh zav o r n (zaw.ad d);have zcE:=Y λzF=>RJ zF (p:Int) Z Z;have O:=Y zaw;have zbn:=Y zbh;have zaZ:=Y zbU;have zaK:=Y zbz;have zaG:=Y zbT;have zaD:=Y zE;have za:=Y (And.intro zaw.t.kN.1 zcQ);have zby:=Y (show e.getD 0 0≠3 by have:=zbh 0 (by have:=zaw.t.kN;omega);have:=zaw.t.z;omega);clear zaw zbh zbU zbz zbT zE;have b:=ao.nil [] zm;go_enter_defers Tryz.func18,Tryz.ntmps18;refine nh λzcr zci zcW zcP zcy=>?_;go_wp2_with(first|(clear zcr;refine b.aI _ (ay h) ?_;clear b;intro zu G b)|(clear zci;refine b.aI _ (#[.bool o,.bool r,.bool n]) ?_;clear b;intro zx zbO b)|(clear zcW;refine b.aH (#[.slice none 0 0]) (v:=.slice none 0 0) ar ?_;clear b;intro zb zcY b)|(clear zcP;refine b.aH (#[.slice none 0 0]) (v:=.slice none 0 0) ar ?_;clear b;intro zd zdh b)|(clear zcy;refine b.aH (#[X 0]) (v:=X 0) ar ?_;clear b;intro zc zc6 b))
 refine b.aW (zcE.out _) ?_;clear b;intro zc7 b;refine fE λzcR zcb=>?_;go_wp2_with(first|(clear zcR;refine dO rfl (b.ai 4 rfl) (cH _) rfl rfl ?_)|(clear zcb;refine dO rfl (b.ai 3 rfl) J3 rfl rfl ?_))
 refine b.aW (zcD.out _ b.aa) ?_;clear b;intro zaR b;go_wp2_with fail
 have zbv:=b.fv;have zbL:=b.size;replace b:=b.bd;refine rg [9] [0,1,2,3,4,5,6,107,8,409,210] ?_;refine ax ?_;refine JZ λzbN z zO zo=>?_;refine q5 _ _ _ 71 (.agg eh) (fu c (λ_=>bL) (λ_=>bR)) 5 88 c underlying27 sF (ajc za.out.2) sU CU ?_;intro zb7 zbK zap;replace b:=(b.aS z).aP zbK zap (a' _);refine zo _ _ zap ?_;clear zo zO zbK;simp only[az];have zcI:=zap.size;refine aG zbN.heap.size λk zbc=>?_;have zbI:=Y (And.intro zbc (b.lt (d:=(zbN.heap.size,_,_)) (hd ..)));rw[zbc]at b⊢;refine ai6 h o r n p c u y H x w bw k ?_;simp only[az];refine lO _ (dH Vq none 0 0) rfl ai3 rfl ?_;refine G1 λJ zcX zbM zbY zbd zbp=>?_;have zbE:J≠k:=by
  have zdf:J<k\/zb7.heap.size<=J:=by simp only[lq,bu]at zbd;exact zbd _ (.inl rfl)
  have:=zbI.out;omega
 replace b:=b.hE zbY zbM (sq.cons (d:=0) (a:=(k,_,_)) (zbv.off zbp) zbE) (b7 zbL zbp);clear zbY zbM zbd zbE zbp zap zcI z zbc zbI zbv zbL;refine b.dq 0 (dH (h5 h o r n p c u y H x w bw k) none 0 0) (ai4 _ _ _ _) (ai5 _ _ _ _) ?_ (r:=by rw[mQ,mQ]);clear b;intro zc8 b;refine ax ?_;have zbF:=av.jh b;clear b;have b:=zbF;clear zbF;have zbb:=b.cl 0 141 (v:=.slice none 0 0) (g:=by exact iv (d:=(h5 h o r n p c u y H x w bw k)) 6);refine nh λzcL zcF zcg zcx zcJ=>?_;go_wp2_with(first|(clear zcL;refine b.ld 6 (cH _) ?_)|(clear zcF;refine fU (T:=54) (cd h .aQ none 0 0) ?_)|(clear zcg;refine e' underlying35 (cd h .aQ none 0 0) rfl rfl ar ?_;intro zcw zV zbo zbt zbw;clear zbb;replace b:=b.aP zbo zbt zbw)|(clear zcx;refine av.fR (zB:=[]) [(zcw,54,cd h .aQ none 0 0),(J,126,dH (h5 h o r n p c u y H x w bw k) none 0 0),(k,71,fu c (λ_=>bL) (λ_=>bR)),(zc,36,#[X 0]),(zd,27,#[.slice none 0 0]),(zb,35,#[.slice none 0 0]),(zx,79,#[.bool o,.bool r,.bool n]),(zu,26,ay h)] b er.nil (bW 0 b6 false 0 dS none 0 0 0) 296 underlying35 vi (kq ..) R (r:=1) (aF.ai (C:=148) (e:=1) zbo (by unfold cd;rw[kq])) (o6 (l1 ..)) R R R ?_;clear b zbo zbt zbw;intro zab zaW zda zbl b zbH;simp only[dZ,cU]at b)|(clear zcJ;refine b.a6 1 (.slice (ab zab) 1 zaW) (dH (h5 h o r n p c u y H x w bw k) (some ⟨zab,0,none⟩) 1 zaW) ?_ (d:=141) (s:=Dk) (t:=by rw[mQ];exact c9 rfl);clear b;intro zb4 b))
 have zbQ:dX [] zm zb4 [(zu,26,ay h),(zx,79,#[.bool o,.bool r,.bool n]),(zb,35,#[.slice none 0 0]),(zd,27,#[.slice none 0 0]),(zc,36,#[X 0]),(k,71,fu c (λ_=>bL) (λ_=>bR))] J (h5 h o r n p c u y H x w bw k) ([]++[.aQ]) (j8 c λ_=>bR) (jI c (λ_=>bL) λ_=>bR):=by refine Dl (l:=[]) (o:=λ_=>none) (h:=λ_=>0) (F:=none) (j:=0) (k:=[]) (x:=some ⟨zab,0,none⟩) (y:=zaW) (u:=[(zab,54,zbl)]) ?_ zbH (λd zw=>absurd zw (fT _)) (λ_=>⟨rfl,rfl⟩) rz;have zay:=(b.drop 1).perm ((List.reverse_perm _).symm.append_right [(zab,54,zbl)]:List.Perm ([(J,126,dH (h5 h o r n p c u y H x w bw k) (some ⟨zab,0,none⟩) 1 zaW),(k,71,fu c (λ_=>bL) (λ_=>bR)),(zc,36,#[X 0]),(zd,27,#[.slice none 0 0]),(zb,35,#[.slice none 0 0]),(zx,79,#[.bool o,.bool r,.bool n]),(zu,26,ay h)]++[(zab,54,zbl)]) _);exact zay.ha _ (λd zw=>by simp[j8,bg,bR]at zw) ⟨⟨λd zw=>absurd zw (fT _),λg=>absurd rfl g⟩,λd zw=>yC⟩ λG zbO zcq F zcA p=>⟨⟨λd zw=>absurd zw (fT _),λg=>absurd rfl g⟩,rz G zbO zcq F zcA p.2⟩
 clear b zbH;have zbA:gM (h5 h o r n p c u y H x w bw k) zh ze (λm=>m<0-0) (bt e 0) (h5 h o r n p c u y H x w bw k) [.aQ] (λ_=>bL) λ_=>bR:=aiW;go_loopw [50,14] (λza7 zcs wr=>∃(a:Nat)(F:bJ)(s:List aE)(t:Nat->aq)(B:Nat->aK),a<=c/\za7=X a/\zcs=X ((bt e a).dF:Int)/\Hid (gM (h5 h o r n p c u y H x w bw k) zh ze (λm=>m<a-(bt e a).dF) (bt e a) F s t B)/\Hid (dX [] zm wr [(zu,26,ay h),(zx,79,#[.bool o,.bool r,.bool n]),(zb,35,#[.slice none 0 0]),(zd,27,#[.slice none 0 0]),(zc,36,#[X 0]),(k,71,fu c t B)] J F s (j8 c B) (jI c t B))) (λza7 _ _=>c-(intOf za7).toNat)
 .exact⟨0,_,_,_,_,Z,rfl,rfl,Y zbA,Y zbQ⟩
 .obtain⟨a,F,s,t,B,zbi,rfl,rfl,zk,z1⟩:=hrel;clear zbQ zbA;refine aG ((bt e a).dF) λj zbf=>?_;have K:=vI e a;have zbV:=Vc e a;have zs:=Y zbf;rw[zbf]at zk K zbV⊢;have Q:=Y (show j<=a/\(bt e a).first+j<=a/\(bt e a).out.length+j=a from Z);have zbx:ck (∀l,a-j<=l->l<a->zaS l=3):=λl z zay=>by have:=Jf e a l (by rw[zs.out];exact z) zay;rw[<-zbn.out l Z,this];rfl
  have zc0:(j:Int)<=4:=sU;clear zbf K zbV;by_cases zH:a<c
  .have zcl:(a:Int)<(c:Int):=Z;have zdb:(c:Int)<=4:=Z;have zbZ:=(O.out.t.ad z1.out.yu).row a zH;have zbR:=O.out.t.rg a zH;have za1:=zbn.out a zH;refine aG (e.getD a 0) λT za8=>?_;rw[za8]at za1;have za2:=Y (And.intro za8 za1);rw[<-za1]at zbZ zbR;have zb8:T=1\/T=2\/T=3:=Z;clear za1 za8 zbR;rcases zb8 with rfl|rfl|rfl
   .have zL:=z1.out;go_wp2_with fail
    obtain⟨zf,L,E,K⟩:=zL.aW;refine(aiu _ zf J F s _ _ a j ⟨Q.out.1,Z⟩ L rz (by have:=zk.out.len;have:=Q.out;omega)).mono ?_;rintro g zcU ⟨rfl,zj⟩;replace zj:=K _ _ _ _ _ zj;clear zL L E K zbZ;have zaV:Hid (dX [] zm zcU [(zu,26,ay h),(zx,79,#[.bool o,.bool r,.bool n]),(zb,35,#[.slice none 0 0]),(zd,27,#[.slice none 0 0]),(zc,36,#[X 0]),(k,71,fu c t B)] J (F.l7 a 1 j) (s++kX a 1 j) (j8 c B) (jI c t B)):=Y zj;clear zj;have za6:=Y (show F.l7 a 1 j={(h5 h o r n p c u y H x w bw k)with gY:=(F.l7 a 1 j).gY,gZ:=(F.l7 a 1 j).gZ,fb:=ei t ((bt e a).e5 1),cn:=iT B ((bt e a).e5 1),fst:=(((bt e a).gC a 1:Nat):Int)} by have:=Jh (e:=a) (b:=1) zk.out (by rw[zs.out];exact Q.out.1);rwa[zs.out]at this);refine VC 1 λzaQ zaX=>?_;have zbs:=Y (show∀i,(bt e a).e5 1=some i->(t i).Ok/\((t i).w:Int)=h.W/\((t i).h:Int)=h.H from λi g=>by
     unfold c6.e5 at g;split at g
     .exact mR g
     .exact zk.out.s5 i (.inr g))
    have zaP:=Y (show((1:Nat):Int)≠1\/0<j->∃i,(bt e a).e5 1=some i from λg=>by
     have zbk:0<a:=by
      rcases mV a with zG|zG
      .have:=Q.out;rcases g with g|g
       .exact absurd rfl (show((1:Nat):Int)≠1 from g)
       .omega
      .exact zG
     obtain⟨i,zJ⟩:=Je e zby.out a zbk;exact⟨i,VE⟩)
    go_wp2_with fail
    refine VA 1 λzf L E K C D zP=>?_;rw[zP]at C L;refine Vy λzae zac zA zag zah zai=>?_;have zaU:D.fst=(((bt e a).gC a 1:Nat):Int):=by rw[C]
    have zT:D.fb=ei t ((bt e a).e5 1)/\D.cn=iT B ((bt e a).e5 1):=Js;refine(Vb _ zf J k D (s++kX a 1 j) t B a ((1:Nat):Int) ((a-(bt e a).gC a 1:Nat):Int) ze (zh a) (zav a) u y x w zag zah zai ⟨Z,Z⟩ Dy Dy (by rw[zA];exact L) zaG.out (by have:=zk.out.len;have:=Q.out;have:=Vt a 1 j;rw[aZ];omega) (λG z=>⟨(O.out.f.ad (E G z)).row a zH,VF⟩) (λG z zC=>by have g:=Dw (O.out.ad (E G z)) (zaK.out.ad (E G z)) (f:=D) zae (by rw[zac];exact zaZ.out) zaD.out zH (l:=((1:Nat):Int)) (r:=((a-(bt e a).gC a 1:Nat):Int)) Z Z (c:=t) (n:=B) (i:=(bt e a).e5 1) (j:=none) zbs.out (λ_ g=>mR g) (λg=>zaP.out (.inl g)) (λg=>absurd g R) (vK (by rw[zA]at zC;exact zC) λi g=>Dz) yC;rw[<-zT.1,<-zT.2]at g;exact g)).mono ?_;rintro g zb9 ⟨rfl,zap,zaa,P,a7,zp,zaE,zaC,zj⟩;rw[ae rfl]at zaC;subst zaC;rw[zA]at zj;replace zj:=K _ _ _ _ _ _ zj;have zI:=Y (show kW (h5 h o r n p c u y H x w bw k) ((1:Nat):Int) ((a-(bt e a).gC a 1:Nat):Int) ze (zh a) ⟨ei t ((bt e a).e5 1),bL,bL⟩ zaa P by rw[zT.1,C]at zp;exact zp);have zv:=Y (show gM (h5 h o r n p c u y H x w bw k) zh ze (λm=>m<a-j\/m=a) ((bt e a).hn a 1) (D.ref P a7) ((s++kX a 1 j)++zaa) (aJ t a P) (aJ B a a7) by have:=Ve (b:=a) (e:=1) (a7:=a7) zk.out (by rw[zs.out];have:=Q.out;omega) zaQ.out zI.out zaE ⟨VG,VH⟩;rw[zs.out,zP]at this;exact this);have zt:=Y zj;clear L E K zj zp zaE zaV zT zaU zag zah zai zA zac zae C za6 z1 zI;have zbq:(a:Int)-(j:Int)=((a-j:Nat):Int):=by have:=Q.out;omega
    refine aG (a-j) λW zaH=>?_;rw[zaH]at zbq;have zR:=Y zaH;have zcc:(W:Int)<=4:=Z;generalize za9:((s++kX a 1 j)++zaa)=zbG at zv zt;generalize aJ t a P=zbC at zv zt;generalize aJ B a a7=zbu at zv zt;generalize D.ref P a7=cY at zv zt;clear za9 zP D;go_wp2_with fail
    go_loopw [17] (λzaf wr=>∃(m:Nat)(zl:List aE)(A:Nat->aq)(I:Nat->aK),m<=j/\zaf=X ((W+m:Nat):Int)/\Hid (gM (h5 h o r n p c u y H x w bw k) zh ze (λi=>i<W+m\/i=a) (((bt e a).hn a 1).ln W m) cY zl A I)/\Hid (dX [] zm wr [(zu,26,ay h),(zx,79,#[.bool o,.bool r,.bool n]),(zb,35,#[.slice none 0 0]),(zd,27,#[.slice none 0 0]),(zc,36,#[X 0]),(k,71,fu c A I)] J cY zl (j8 c I) (jI c A I))) (λzaf _=>a-(intOf zaf).toNat)
    .exact Vw
    .obtain⟨m,zl,A,I,za4,rfl,zM,zbj⟩:=hrel;clear zv zt;refine aG (W+m) λl zaB=>?_;have zY:=Y zaB;rw[zaB]at zM⊢;by_cases zcG:m<j
     .refine VB λza3 zS zaz zn zaL zB zK zak zar zaY b C zas zat zaF zaq zau zax=>?_;have zba:=Y (show cY.fst=(((bt e a).gC a 1:Nat):Int)from ov);refine Vx 1 ?_;clear C;intro zi zad zaM za0 zy;go_wp2_with fail
      refine Vz ?_;clear b zy;intro b zE zf zL E K zy zN;refine bN (Jc _ zf J cY zl _ _ l 3 ((l-(bt e a).gC a 1:Nat):Int) ze (zh l) (zav l) ⟨cY.gY,cY.fb,bL⟩ ⟨cY.gZ,cY.cn,bR⟩ u y x w zau.out zax.out ⟨DA,DA⟩ DB DB zL rz zaG.out (by have:=zaM.out;omega) (λG z=>⟨(O.out.f.ad (E G z)).row l zS,VI⟩) (λG z zC=>by have g:=Dw (O.out.ad (E G z)) (zaK.out.ad (E G z)) (f:=cY) zas.out (by rw[zat.out];exact zaZ.out) zaD.out zS (l:=3) (r:=((l-(bt e a).gC a 1:Nat):Int)) R Z (c:=A) (n:=I) (i:=(bt e a).e5 1) (j:=some a) zad.out.1 zad.out.2 (λ_=>zaP.out (.inr Z)) (λ_=>⟨a,rfl⟩) (vK zC λi g=>Dz) (vK zC λi g=>by cases g;omega);rw[<-zi.out.1,<-zi.out.2.1,<-zi.out.2.2.1,<-zi.out.2.2.2]at g;exact g)) ?_;rintro g zcM ⟨zaO,P,a7,rfl,zp,zbm,L⟩;have zaA:=L.yu;clear b zE zL;refine Jd 6 λzW zX zal zan zam zao b z8 z'=>?_;clear zN zaA zy;have zI:=Y (show kW (h5 h o r n p c u y H x w bw k) 3 ((l-(((bt e a).hn a 1).ln W m).first:Nat):Int) ze (zh l) ⟨ei A (((bt e a).hn a 1).ln W m).ed,ei A (((bt e a).hn a 1).ln W m).b1,bL⟩ zaO P by have C:=zM.out.qj;rw[zi.out.1,zi.out.2.2.1,C]at zp;rw[s4];exact zp);exact Vu
     .exact Vv 1
   .have zaV:Hid (dX [] zm wr [(zu,26,ay h),(zx,79,#[.bool o,.bool r,.bool n]),(zb,35,#[.slice none 0 0]),(zd,27,#[.slice none 0 0]),(zc,36,#[X 0]),(k,71,fu c t B)] J (F.l7 a 2 j) (s++kX a 2 j) (j8 c B) (jI c t B)):=Y (by rw[show kX a 2 j=[]from rfl,eG];exact z1.out);have za6:=Y (show F.l7 a 2 j={(h5 h o r n p c u y H x w bw k)with gY:=(F.l7 a 2 j).gY,gZ:=(F.l7 a 2 j).gZ,fb:=ei t ((bt e a).e5 2),cn:=iT B ((bt e a).e5 2),fst:=(((bt e a).gC a 2:Nat):Int)} by have:=Jh (e:=a) (b:=2) zk.out (by rw[zs.out];exact Q.out.1);rwa[zs.out]at this);refine VC 2 λzaQ zaX=>?_;have zbs:=Y (show∀i,(bt e a).e5 2=some i->(t i).Ok/\((t i).w:Int)=h.W/\((t i).h:Int)=h.H from λi g=>by
     unfold c6.e5 at g;split at g
     .exact mR g
     .exact zk.out.s5 i (.inr g))
    have zaP:=Y (show((2:Nat):Int)≠1\/0<j->∃i,(bt e a).e5 2=some i from λg=>by
     have zbk:0<a:=by
      rcases mV a with zG|zG
      .have:=za2.out.2;have zaj:=O.out.t.z;rw[zG,zaj]at this;exact absurd this R
      .exact zG
     obtain⟨i,zJ⟩:=Je e zby.out a zbk;exact⟨i,VE⟩)
    go_wp2_with fail
    refine VA 2 λzf L E K C D zP=>?_;rw[zP]at C L;refine Vy λzae zac zA zag zah zai=>?_;have zaU:D.fst=(((bt e a).gC a 2:Nat):Int):=by rw[C]
    have zT:D.fb=ei t ((bt e a).e5 2)/\D.cn=iT B ((bt e a).e5 2):=Js;refine(Vb _ zf J k D (s++kX a 2 j) t B a ((2:Nat):Int) ((a-(bt e a).gC a 2:Nat):Int) ze (zh a) (zav a) u y x w zag zah zai ⟨Z,Z⟩ Dy Dy (by rw[zA];exact L) zaG.out (by have:=zk.out.len;have:=Q.out;have:=Vt a 2 j;rw[aZ];omega) (λG z=>⟨(O.out.f.ad (E G z)).row a zH,VF⟩) (λG z zC=>by have g:=Dw (O.out.ad (E G z)) (zaK.out.ad (E G z)) (f:=D) zae (by rw[zac];exact zaZ.out) zaD.out zH (l:=((2:Nat):Int)) (r:=((a-(bt e a).gC a 2:Nat):Int)) Z Z (c:=t) (n:=B) (i:=(bt e a).e5 2) (j:=none) zbs.out (λ_ g=>mR g) (λg=>zaP.out (.inl g)) (λg=>absurd g R) (vK (by rw[zA]at zC;exact zC) λi g=>Dz) yC;rw[<-zT.1,<-zT.2]at g;exact g)).mono ?_;rintro g zb9 ⟨rfl,zap,zaa,P,a7,zp,zaE,zaC,zj⟩;rw[ae rfl]at zaC;subst zaC;rw[zA]at zj;replace zj:=K _ _ _ _ _ _ zj;have zI:=Y (show kW (h5 h o r n p c u y H x w bw k) ((2:Nat):Int) ((a-(bt e a).gC a 2:Nat):Int) ze (zh a) ⟨ei t ((bt e a).e5 2),bL,bL⟩ zaa P by rw[zT.1,C]at zp;exact zp);have zv:=Y (show gM (h5 h o r n p c u y H x w bw k) zh ze (λm=>m<a-j\/m=a) ((bt e a).hn a 2) (D.ref P a7) ((s++kX a 2 j)++zaa) (aJ t a P) (aJ B a a7) by have:=Ve (b:=a) (e:=2) (a7:=a7) zk.out (by rw[zs.out];have:=Q.out;omega) zaQ.out zI.out zaE ⟨VG,VH⟩;rw[zs.out,zP]at this;exact this);have zt:=Y zj;clear L E K zj zp zaE zaV zT zaU zag zah zai zA zac zae C za6 z1 zI;have zbq:(a:Int)-(j:Int)=((a-j:Nat):Int):=by have:=Q.out;omega
    refine aG (a-j) λW zaH=>?_;rw[zaH]at zbq;have zR:=Y zaH;have zcc:(W:Int)<=4:=Z;generalize za9:((s++kX a 2 j)++zaa)=zbG at zv zt;generalize aJ t a P=zbC at zv zt;generalize aJ B a a7=zbu at zv zt;generalize D.ref P a7=cY at zv zt;clear za9 zP D;go_wp2_with fail
    go_loopw [17] (λzaf wr=>∃(m:Nat)(zl:List aE)(A:Nat->aq)(I:Nat->aK),m<=j/\zaf=X ((W+m:Nat):Int)/\Hid (gM (h5 h o r n p c u y H x w bw k) zh ze (λi=>i<W+m\/i=a) (((bt e a).hn a 2).ln W m) cY zl A I)/\Hid (dX [] zm wr [(zu,26,ay h),(zx,79,#[.bool o,.bool r,.bool n]),(zb,35,#[.slice none 0 0]),(zd,27,#[.slice none 0 0]),(zc,36,#[X 0]),(k,71,fu c A I)] J cY zl (j8 c I) (jI c A I))) (λzaf _=>a-(intOf zaf).toNat)
    .exact Vw
    .obtain⟨m,zl,A,I,za4,rfl,zM,zbj⟩:=hrel;clear zv zt;refine aG (W+m) λl zaB=>?_;have zY:=Y zaB;rw[zaB]at zM⊢;by_cases zcG:m<j
     .refine VB λza3 zS zaz zn zaL zB zK zak zar zaY b C zas zat zaF zaq zau zax=>?_;have zba:=Y (show cY.fst=(((bt e a).gC a 2:Nat):Int)from ov);refine Vx 2 ?_;clear C;intro zi zad zaM za0 zy;go_wp2_with fail
      refine Vz ?_;clear b zy;intro b zE zf zL E K zy zN;refine bN (Jc _ zf J cY zl _ _ l 3 ((l-(bt e a).gC a 2:Nat):Int) ze (zh l) (zav l) ⟨cY.gY,cY.fb,bL⟩ ⟨cY.gZ,cY.cn,bR⟩ u y x w zau.out zax.out ⟨DA,DA⟩ DB DB zL rz zaG.out (by have:=zaM.out;omega) (λG z=>⟨(O.out.f.ad (E G z)).row l zS,VI⟩) (λG z zC=>by have g:=Dw (O.out.ad (E G z)) (zaK.out.ad (E G z)) (f:=cY) zas.out (by rw[zat.out];exact zaZ.out) zaD.out zS (l:=3) (r:=((l-(bt e a).gC a 2:Nat):Int)) R Z (c:=A) (n:=I) (i:=(bt e a).e5 2) (j:=some a) zad.out.1 zad.out.2 (λ_=>zaP.out (.inr Z)) (λ_=>⟨a,rfl⟩) (vK zC λi g=>Dz) (vK zC λi g=>by cases g;omega);rw[<-zi.out.1,<-zi.out.2.1,<-zi.out.2.2.1,<-zi.out.2.2.2]at g;exact g)) ?_;rintro g zcM ⟨zaO,P,a7,rfl,zp,zbm,L⟩;have zaA:=L.yu;clear b zE zL;refine Jd 6 λzW zX zal zan zam zao b z8 z'=>?_;clear zN zaA zy;have zI:=Y (show kW (h5 h o r n p c u y H x w bw k) 3 ((l-(((bt e a).hn a 2).ln W m).first:Nat):Int) ze (zh l) ⟨ei A (((bt e a).hn a 2).ln W m).ed,ei A (((bt e a).hn a 2).ln W m).b1,bL⟩ zaO P by have C:=zM.out.qj;rw[zi.out.1,zi.out.2.2.1,C]at zp;rw[s4];exact zp);exact Vu
     .exact Vv 2
   .go_wp2_with fail
    have zaN:bt e (a+1)={bt e a with dF:=j+1}:=by rw[bt,za2.out.1,c6.step,ae rfl,zs.out]
    exact⟨⟨a+1,F,s,t,B,Z,a8,by rw[zaN];go_num,Y (by rw[zaN];exact(zk.out.dF (j+1)).mono λm za4=>by show m<a+1-(j+1);omega),z1⟩,bF⟩
  .have zcl:¬((a:Int)<(c:Int)):=Z;obtain rfl:c=a:=Z;have zcC:j=0:=by
    rcases mV j with zG|zG
    .exact zG
    .exact absurd (zbx.out (c-1) Z sU) O.out.t.l
   subst zcC;have zbW:=O.out.aQ.v;unfold et at zbW;have zaJ:(ek h s (λ_=>0) s.length).length<=1048576/\s.length<=64/\0<s.length/\∀d,d<s.length->gW h (bq s d):=Vm (g:=ze) zk.out O.out.aQ (O.out.b8.imp id λp=>⟨p.2.1,p.2.2⟩) (by have:=zaD.out;omega) (λd zw=>by have zQ:=Du (e:=e) (i:=c) (λa zbi=>by have:=zbn.out a zbi;have:=O.out.t.rg a zbi;omega) c (a' _) d zw;have zdc:=za.out;exact⟨zQ.1,Z,λzck zch g=>by have:=zQ.2.2.2 zck zch g;omega⟩) (by have:=Q.out;have:=za.out;omega);clear zbW;have zcf:F.s=h:=by rw[zk.out.qj];rfl
   have zbr:F.sZ=some ⟨k,0,none⟩/\F.qe=c/\F.n=c:=by rw[zk.out.qj];exact⟨rfl,rfl,rfl⟩
   obtain⟨zaz,zn,zaL,zB,zK,zak,b,zaj,za5⟩:=z1.out;simp only[dZ,cU]at b;rw[zcf]at zaj;have zG:=zaJ.2.2.1;rcases zaj with⟨zcZ,_⟩|⟨zq,zbe,rfl,rfl,zb0⟩
   .omega
   have zar:ck (er 54 148 s.length (cq (λd=>cd h (bq s d) (zB d) (zK d) 0) s.length) (some ⟨zq,0,none⟩) zn [(zq,54,zbe)]):=.inr ⟨zq,zbe,rfl,rfl,zb0⟩;clear zb0 za5;have zbP:=Y λ(zF:N)(zb5:bX)(b:av [] zm zF (zb5++[(zq,54,zbe)]) (zak++j8 c B) λzF=>ku s zB zak zF/\jI c t B zF)=>show jG zF h zq s zB zK (λ_=>0)from⟨dQ.q7 (zq:=148) (r:=λd=>cd h (bq s d) (zB d) (zK d) 0) (λm=>by unfold cd;rw[kq]) (b.row zar.out),λd zw zcu=>(b.q.1 d zw zcu).is⟩;have zcv:=Y (RI wr h zq zn s.length s zB zK (λ_=>0) (zbP.out wr [(zu,26,ay h),(zx,79,#[.bool o,.bool r,.bool n]),(zb,35,#[.slice none 0 0]),(zd,27,#[.slice none 0 0]),(zc,36,#[X 0]),(k,71,fu c t B),(J,126,dH F (some ⟨zq,0,none⟩) s.length zn)] b) rfl zaJ.2.1 zaJ.2.2.2 (λ_ _=>jo _) (zaK.out.ad z1.out.yu) zaG.out);have zcz:=Y zaJ.1;clear zaJ zG;have zbb:=b.cl 6 141 (v:=.slice (ab zq) s.length zn) (g:=by exact iv 6);go_wp2_with fail
   refine zcv.out.mono λg zdj zbB=>?_;obtain⟨_,v,zcp,zcK⟩:=zbB.resolve_right λp=>absurd zcz.out (Nat.not_le.2 p.1);subst zcp;obtain⟨_,_,_,rfl,zbS,_⟩:=zcK;replace b:=b.aS zbS.aa;clear zbb zbS zbB;go_wp2_with fail
   have zbX:=b.cl 6 141 (v:=.slice (ab zq) s.length zn) (g:=by exact iv 6);have zbJ:=b.cl 6 142 (v:=.slice (ab k) c c) (g:=by have zaI:(dH F (some ⟨zq,0,none⟩) s.length zn)[142]? =some (.slice F.sZ F.n F.qe):=iv 7;rw[zbr.1,zbr.2.1,zbr.2.2]at zaI;exact zaI);have zbg:J∉[zb,zd,zc]:=by have z:=b.ne 6 2 rfl rfl R;have zay:=b.ne 6 3 rfl rfl R;have zbD:=b.ne 6 4 rfl rfl R;simp only at z zay zbD;simp[z,zay,zbD]
   have zcH:=oa (C:=[zb,zd,zc]) zbX zbg;have zcB:=oa (C:=[zb,zd,zc]) zbJ zbg;replace b:=b.bd;refine ly (aM:=bA [zb,zd,zc]) [] (.inr rfl) [0,1,2,3,104,105,106] ?_;refine pk ?_;clear zcH zcB zbX zbJ zbg;refine gn λzO zo=>?_;refine eI (.slice (ab zq) s.length zn) rfl rfl rfl rfl (b.ai 2 rfl) R rfl rfl ?_;intro zdd zZ zD aQ;replace b:=b.put 2 rfl (Q:=#[.slice (ab zq) s.length zn]) zZ zD;try dsimp only[List.set]at b
   refine zo _ _ (zD.mono U) ?_;clear zo zO zZ zD aQ;simp only[az];refine gn λzO zo=>?_;refine eI (.slice (ab k) c c) rfl rfl rfl rfl (b.ai 3 rfl) R rfl rfl ?_;intro zdg zZ zD aQ;replace b:=b.put 3 rfl (Q:=#[.slice (ab k) c c]) zZ zD;try dsimp only[List.set]at b
   refine zo _ _ (zD.mono U) ?_;clear zo zO zZ zD aQ;simp only[az];refine gn λzO zo=>?_;refine eI (X 0) rfl rfl rfl rfl (b.ai 4 rfl) R rfl rfl ?_;intro zdi zZ zD aQ;replace b:=b.put 4 rfl (Q:=#[X 0]) zZ zD;try dsimp only[List.set]at b
   refine zo _ _ (zD.mono U) ?_;clear zo zO zZ zD aQ;refine ax ?_;go_wp2_with fail
   refine BL (f:=44) (args:=#[ab zb,ab zd,ab zc]) U (by simp[go_sem]) ?_;refine(ae8 ⟨zb,0,none⟩ ⟨zd,0,none⟩ ⟨zc,0,none⟩ _).mono ?_;rintro g zde zc9 ⟨rfl,rfl,rfl⟩;refine⟨_,ajd rfl (b.ai 2 rfl) (b.ai 3 rfl) (b.ai 4 rfl) rfl rfl rfl,k,zq,zn,s,zB,zK,t,B,F,rfl,zk.out.mono λm za4=>za4,zbP.out _ [_,_,_,_,_,_,_] b,b.ai 5 rfl,b.q.2,b.aa,(b.h.n (zq,_,_) (bS (i:=7) rfl)).resolve_left U,(b.h.n (k,_,_) (bS (i:=5) rfl)).resolve_left U⟩
def h6:gz:=⟨0,0,0,none,none,none⟩
def s7(a:List gz)(c:Nat):Option Nat->Bool
 |none=>true
 |some b=>decide (0<=l9 a (some b))&&(decide (l9 a (some b)<c)&&(a.getD (l9 a (some b)).toNat h6).n==b)
def VJ(b:List gz):Bool:=(List.range b.length).all λc=>let a:=b.getD c h6;s7 b c a.hK&&(s7 b c a.hL&&((a.t==1||a.hK.isSome)&&((a.t !=3||a.hL.isSome)&&(List.range b.length).all λd=>d==c||(b.getD d h6).n !=a.n)))
def VK(b c d:Bool)(a:af):Bool:=qa nB (iq (oX b c d (bt a a.length).out) (oX b c d (bt a a.length).out).length)
theorem aje:∀a∈sG,VJ (bt a a.length).out=true:=bm
theorem ajf:∀b c d:Bool,∀a∈sG,a.getLastD 0≠3->VK b c d a=true:=bm
theorem ajg(a:gz):(hq a).length=match a.kQ with
 |some _=>1
 |none=>0:=by
 unfold hq
 cases a.kQ with
 |none=>rfl
 |some b=>rfl
theorem Jt(c e f:Bool)(d:List gz)(b:Nat)(a:gz)(g:List gz):mH c e f d b (a::g)=⟨((b+(hq a).length:Nat):Int),((if c=true then b+(hq a).length+1 else b+(hq a).length:Nat):Int),a.t,l9 d a.hK,l9 d a.hL,a.n,(xM c e f a).headD ⟨0,0,0,false,false,false⟩⟩::mH c e f d ((if c=true then b+(hq a).length+1 else b+(hq a).length)+1) g:=by rw[ajg];rfl
theorem VL(h q p:Bool)(k:List gz)(d:Nat->List aE):∀(m:List gz)(c:Nat)(j:List aE),j.length=c->(∀a∈m,(d a.n).length=if h=true then 2 else 1)->∀(g:Nat)(a:gz),m[g]? =some a->∃(i:Nat)(b:e1),(mH h q p k c m)[g]? =some b/\b.first=(i:Int)/\b.last=(((i+(d a.n).length-1:Nat)):Int)/\b.t=(a.t:Int)/\b.hK=l9 k a.hK/\b.hL=l9 k a.hL/\b.shown=(a.n:Int)/\b.head.r=false/\∀f,f<(d a.n).length->(j++(m.map λa=>hq a++d a.n).flatten)[i+f]? =(d a.n)[f]?
 |[],_,_,_,_,g,a,e=>r5
 |C::A,c,j,n,l,0,a,e=>by
  obtain rfl:C=a:=kf;have o:=l C (hd ..);rw[Jt];refine⟨c+(hq C).length,_,rfl,rfl,?_,rfl,rfl,rfl,rfl,?_,λf r=>?_⟩
  .refine aX Nat.cast ?_;rw[o];cases h
   .simp only[M Bool.false_ne_true];omega
   .simp only[ae];omega
  .unfold xM;cases h<;>rfl
  .rw[cj,Dt,b5,<-b5,db (by rw[aZ];omega),aZ,n,show c+(hq C).length+f-(c+(hq C).length)=f from Z,eE r]
 |C::A,c,j,n,l,g+1,a,e=>by
  have o:=l C (hd ..);have w:A[g]? =some a:=kf;obtain⟨i,b,x,u⟩:=VL h q p k d A (c+(hq C).length+(d C.n).length) (j++(hq C++d C.n)) (by rw[aZ,aZ,n];omega) (λs t=>l s (hQ _ t)) g a w;refine⟨i,b,?_,?_⟩
  .rw[<-x,Jt,dt];congr 2;rw[o];cases h
   .simp only[M Bool.false_ne_true]
   .simp only[ae]
  .rw[cj,Dt,<-b5];exact u
theorem VM(e c d:Bool)(b:List gz):∀(f:List gz)(a:Nat),(mH e c d b a f).length=f.length
 |[],_=>rfl
 |C::A,a=>by rw[Jt,cz,cz,VM e c d b A]
section
variable {a d:bJ}{t m:Nat->aq}{g:Nat}{p:Nat->Prop}{o:c6}{c:List aE}{D:Nat->aK}
theorem VN(c:kW a j i g zi s I J):I.length=if a.cF=true then 2 else 1:=by
 cases b:a.cF
 .obtain⟨h,_,rfl⟩:=c.1 b;rfl
 .obtain⟨d,f,k,e,_,_,rfl,_⟩:=c.2.1 b;rfl
theorem ajh(c:kW a F.t F.aa g zi s I J):(hq F++I).map aE.ak=Hs a.cF a.dj a.aH F:=by
 unfold Hs;rw[hf];congr 1
 .unfold hq;cases F.kQ with
  |none=>rfl
  |some d=>rfl
 .unfold xM;cases b:a.cF
  .obtain⟨i,_,rfl⟩:=c.1 b;rfl
  .obtain⟨e,h,j,f,_,_,rfl,_⟩:=c.2.1 b;simp only[ae,cj,ee,kv,aE.ak,cG,bJ.dG];cases a.dj<;>rfl
theorem VO(b:gM a t g p o d c m D):c.map aE.ak=oX a.cF a.dj a.aH o.out:=by obtain⟨j,e,f⟩:=b.it;rw[e];unfold qi oX;rw[cj,List.map_flatten,AE];congr 2;exact oC λh i=>ajh (f h i)
theorem aji(l:kW a j i g zi s I J)(f:qk a j i g zi s){b:Nat}(n:b<I.length):(bq I b).bE≠[]:=by
 cases d:a.cF
 .obtain⟨o,_,rfl⟩:=l.1 d;have w:=(f.whole d).kN;have r:=(rA (a:=a) (q:=gB a j i) (c:=false) (g:=g) (B:=o)).1;simp only[cz,dv]at n;obtain rfl:b=0:=Z;intro e;have c:(kv a (gB a j i) false g o).bE=[]:=e;rw[c]at r;simp only[dv]at r;omega
 .obtain⟨k,m,z,x,_,_,rfl,_⟩:=l.2.1 d;have u:a.dG<=1:=Jo;have w:=(f.s3 d u false bL (.inl rfl) (λh=>Bool.noConfusion h)).kN;have y:=(f.s3 d (c:=1-a.dG) Z false bL (.inl rfl) (λh=>Bool.noConfusion h)).kN;have q:=(rA (a:=a) (q:=cG a j i a.dG) (c:=false) (g:=g) (B:=k)).1;have p:=(rA (a:=a) (q:=cG a j i (1-a.dG)) (c:=true) (g:=g) (B:=m)).1;simp only[cz,dv]at n;intro e;have t:b=0\/b=1:=Z;rcases t with rfl|rfl
  .have c:(kv a (cG a j i a.dG) false g k).bE=[]:=e;rw[c]at q;simp only[dv]at q;omega
  .have c:(kv a (cG a j i (1-a.dG)) true g m).bE=[]:=e;rw[c]at p;simp only[dv]at p;omega
theorem ajj{b:List gz}{a:Nat}(d:s7 b z (some a)=true):∃c,c<z/\l9 b (some a)=(c:Int)/\(b.getD c h6).n=a:=by unfold s7 at d;simp only[dB,mX,iz]at d;exact⟨(l9 b (some a)).toNat,Z,Z,d.2.2⟩
theorem VP(zI:dA u)(z':dD)(s:gM a t g (λf=>f<b) (bt k b) d c m D)(A:oi k)(zV:k.length=b)(zG:ho a.s)(zX:a.s.b8=true\/(a.cF=false/\a.dj=true))(p:1<=a.q/\a.q<=31)(zO:a.s.W/16=(g:Int)) (zC:∀j,j<b->(t j).Ok/\((t j).w:Int)=a.s.W/\((t j).h:Int)=a.s.H) (zQ:∀i,i<c.length->(bq c i).bE≠[]->oZ u (w i) (bq c i).bE):Uj u a.s c w H (mH a.cF a.dj a.aH (bt k b).out 1 (bt k b).out) (λf=>m ((bt k b).out.getD f h6).n):=by
 subst zV;have zz:=xN A;have zr:=aes A a.cF a.dj a.aH;have zi:=ajf a.cF a.dj a.aH k zz A.2.2.2;have ze:=aje k zz;have zl:=VO s;have zah:=A.1;have L:=Du (e:=k) (i:=k.length) (λj n=>by have:=A.2.1 (k.getD j 0) (by rw[b9,cu n,lE];exact la _);exact this) k.length (a' _);have z6:=vI k k.length;have zai:0<k.length:=by
  rcases mV k.length with e|e
  .have:=A.2.2.1;rw[List.length_eq_zero_iff.1 e]at this;simp at this
  .exact e
 have zae:(bt k k.length).dF=0:=by
  rcases mV (bt k k.length).dF with e|e
  .exact e
  .have:=Jf k k.length (k.length-1) Z Z;have zo:=A.2.2.2;rw[r6,r7,<-b9]at zo;exact absurd this zo
 obtain⟨o,zf,O⟩:=s.it;refine aG ((bt k k.length).out) λh zH=>?_;unfold VK at zi;rw[zH]at zr zi ze zl L z6 zf O⊢;have zaj:h.length=k.length:=Z;have F:=VM a.cF a.dj a.aH h h 1;have zn:∀i∈h,(m i.n).Ok/\((m i.n).w:Int)=a.s.W/\((m i.n).h:Int)=a.s.H:=λi z=>by have l:=O i z;have y:=zC i.n (L i z).2.2.1;exact⟨l.2.2.1,by rw[l.2.2.2.1];exact y.2.1,by rw[l.2.2.2.2];exact y.2.2⟩
 have K:∀f,f<h.length->h[f]? =some (h.getD f h6)/\h.getD f h6∈h:=λf q=>by rw[b9,cu q,lE];exact⟨rfl,la _⟩
 have zB:=λf q=>VL a.cF a.dj a.aH h o h 1 [.aQ] rfl (λi z=>VN (O i z)) f (h.getD f h6) (K f q).1;have zp:∀f,f<h.length->s7 h f (h.getD f h6).hK=true/\s7 h f (h.getD f h6).hL=true/\((h.getD f h6).t≠1->(h.getD f h6).hK.isSome=true)/\((h.getD f h6).t=3->(h.getD f h6).hL.isSome=true)/\∀j,j<h.length->j≠f->(h.getD j h6).n≠(h.getD f h6).n:=λf q=>by unfold VJ at ze;have x:=ke.1 ze f (fq.2 q);simp only[dB,k5,iz,qA,ne_eq]at x;refine⟨x.1,x.2.1,λe=>x.2.2.1.resolve_left e,λe=>x.2.2.2.1.resolve_left λI=>I e,λj n za=>?_⟩;have zs:=ke.1 x.2.2.2.2 j (fq.2 n);simp only[k5,iz,qA,ne_eq]at zs;exact zs.resolve_left za
 have zm:∀f,f<h.length->∀r,s7 h f r=true->vA f (l9 h r)/\nC (λf=>m (h.getD f h6).n) (l9 h r)=ei m r/\(r.isSome=true->l9 h r≠-1)/\li (ei m r) a.s.W a.s.H/\(r.isSome=true->(ei m r).w≠0):=λf q r zF=>by
  cases r with
  |none=>exact⟨.inl rfl,rfl,λe=>Bool.noConfusion e,.inl rfl,λe=>Bool.noConfusion e⟩
  |some B=>
   obtain⟨j,n,E,W⟩:=ajj zF;have I:=zn _ (K j Z).2;rw[W]at I;refine⟨.inr ⟨j,E,n⟩,?_,λ_=>by rw[E];omega,.inr I,λ_=>?_⟩
   .unfold nC;rw[M (by rw[E];omega),E];show m (h.getD j h6).n=m B;rw[W]
   .have:=I.1.gG;show(m B).w≠0;omega
 have zd:∀f,f<h.length->(dT (mH a.cF a.dj a.aH h 1 h) f).shown=((h.getD f h6).n:Int):=λf q=>by obtain⟨l,zf,zb,_,_,_,_,_,zaa,_⟩:=zB f q;unfold dT;rw[b9,zb,lE,zaa]
 refine⟨by rw[<-ju aE.ak,zl];exact zi,by rw[zl];exact zr,λe=>by rw[e]at F;simp at F;omega,by rw[F];omega,λf q=>?_,λl y J C zM=>?_,λj n=>(zn _ (K j Z).2).1,λj n=>?_⟩
 .rw[F]at q⊢;rw[zd f q];have:=(L _ (K f q).2).2.2.1;omega
 .rw[F]at J C;rw[zd l J,zd y C]at zM;by_cases za:l=y
  .exact za
  .exact absurd Z ((zp y C).2.2.2.2 l J za)
 .rw[F]at n;obtain⟨l,E,zb,J,C,zJ,P,Q,zU,zP,zy⟩:=zB j n;have zR:dT (mH a.cF a.dj a.aH h 1 h) j=E:=by unfold dT;rw[b9,zb,lE]
  rw[zR];obtain⟨zt,zq,zj,zc,zag⟩:=zp j n;obtain⟨_,z⟩:=K j n;refine aG (h.getD j h6) λi zu=>?_;rw[zu]at zt zq zj zc z zJ P Q zU zy C;have zh:=O i z;have zL:=VN zh;have zaf:1<=(o i.n).length/\(o i.n).length<=2:=by rw[zL];split<;>omega
  have zD:∀e,e<(o i.n).length->c[l+e]? =(o i.n)[e]? :=by rw[zf];exact zy
  have zw:∀e,e<(o i.n).length->l+e<c.length:=λe p=>by
   rcases jn (l+e) c.length with s|s
   .exact s
   .have:=zD e p;rw[fN s,cu p]at this;exact mR this
  have zv:∀e,e<(o i.n).length->bq c (l+e)=bq (o i.n) e:=λe p=>by unfold bq;rw[b9,b9,zD e p]
  obtain⟨zE,zY,zS,zZ,zad⟩:=zm j n i.hK zt;obtain⟨zT,aU,z1,z8,zab⟩:=zm j n i.hL zq;have y:=L i z;have B:=zC i.n y.2.2.1;refine⟨⟨l,l+(o i.n).length-1,J,C,Z,Z,?_,?_⟩,by rw[P];exact zE,by rw[Q];exact zT,λs=>?_,λs=>?_,zP⟩
  .have:=zw ((o i.n).length-1) Z;omega
  .rw[show l+(o i.n).length-1+1-l=(o i.n).length from Z,P,Q];intro zk zac x z7 zW zN zK zx zA;show Calls prog _ _ zk (vx (m (h.getD j h6).n) zk);rw[zu];rw[zY]at zx⊢;rw[aU]at zA⊢;have ak:qk a i.t i.aa g (t i.n) (vH m i):=⟨zG,Z,Z,zX,p,B.1,B.2.1,B.2.2,zO,zZ,z8,λs=>zad (zj Z),λs=>zab (zc Z),rfl⟩;refine ai1 (w:=λe=>w (l+e)) (H:=λe=>H (l+e)) zI z' ak zh (λe p=>?_) zk zac x z7 zW zN (λe p=>?_) zx zA
   .have G:=zQ (l+e) (zw e p);rw[zv e p]at G;exact G (aji zh ak p)
   .have G:=zK e p;have W:c.getD (l+e) .aQ=bq (o i.n) e:=zv e p;rw[W]at G;exact G
  .rw[P];exact zS (zj Z)
  .rw[Q];exact z1 (zc Z)
end
def yF(e d:Bool)(c:List iN)(a:Nat):Bool:=Db c a&&match c[a]? with
 |some .aQ=>a==0
 |some (.cD b)=> !b.r&&(e||(b.s==3&&b.f==d))
 |_=>a !=0
def VQ(b c d:Bool)(a:af):Bool:=(List.range (oX b c d (bt a a.length).out).length).all (yF b c (oX b c d (bt a a.length).out))&&decide (0<(dm (oX b c d (bt a a.length).out) (oX b c d (bt a a.length).out).length).length)
theorem ajk:∀b c d:Bool,∀a∈sG,a.getLastD 0≠3->VQ b c d a=true:=bm
section
variable {a d:bJ}{t m:Nat->aq}{g b:Nat}{p:Nat->Prop}{k:af}{c:List aE}{D:Nat->aK}{e u:N}{W zA:Nat}{w:Nat->Option Addr}{H x:Nat->Nat}
structure ql(c:aD)(a:List aE):Prop where
 le:(ek c a (λ_=>0) a.length).length<=1048576
 n:a.length<=64
 ja:0<a.length
 ok:∀d,d<a.length->gW c (bq a d)
 ajl:∀b,b<a.length->Db (a.map aE.ak) b=true
 z:a[0]? =some .aQ
 ajm:∀b,a[b+1]? ≠some .aQ
 r:∀ja e,aE.cD ja e∈a->fI c ja false/\ja.r=false
 VR:0<(dm (a.map aE.ak) a.length).length
theorem ql.ajn{a:List aE}(e:ql h a):∀b,b<a.length->(bq a b).ej.r=false:=λb g=>by
 have c:bq a b∈a:=by unfold bq;rw[b9,cu g,lE];exact la _
 cases E:bq a b with
 |aQ=>rfl
 |aA i j=>rfl
 |cD d f=>rw[E]at c;exact(e.r d f c).2
theorem VS(q:gM a t g p (bt k b) d c m D)(o:oi k)(L:k.length=b)(y:ho a.s)(z:a.s.b8=true\/(a.cF=false/\a.dj=true))(P:g<=4):ql a.s c:=by
 subst L;have H:=Du (e:=k) (i:=k.length) (λe f=>by have:=o.2.1 (k.getD e 0) (by rw[b9,cu f,lE];exact la _);exact this) k.length (a' _);have zc:=vI k k.length;have zb:=o.1;obtain⟨G,J,Q,x⟩:=Vm q y z P (λI K=>by have A:=H I K;exact⟨A.1,Z,λC W j=>by have:=A.2.2.2 C W j;omega⟩) Z;have O:=VO q;have l:=ajk a.cF a.dj a.aH k (xN o) o.2.2.2;unfold VQ at l;rw[<-O,dB,mX,ju]at l;have s:∀e,e<c.length->yF a.cF a.dj (c.map aE.ak) e=true:=λe f=>ke.1 l.1 e (fq.2 f);have u:∀(e:Nat)(r:aE),c[e]? =some r->(c.map aE.ak)[e]? =some r.ak:=λe r i=>by rw[fx,i];rfl
 refine⟨G,J,Q,x,λe f=>?_,?_,λe i=>?_,λF p i=>?_,l.2⟩
 .have:=s e f;unfold yF at this;exact(dB _ _▸this).1
 .obtain⟨za,j,_⟩:=q.it;rw[j];rfl
 .have f:=(e8.1 i).1;have:=s _ f;unfold yF at this;rw[u _ _ i]at this;simp[aE.ak]at this
 .obtain⟨e,f⟩:=List.mem_iff_getElem?.1 i;have w:=(e8.1 f).1;have:=s e w;unfold yF at this;rw[u _ _ f]at this;simp only[aE.ak,dB,k5,x5,iz]at this;obtain⟨_,B,h⟩:=this;have E:=(x e w).ej F p (by unfold bq;rw[b9,f];rfl);refine⟨⟨y,E,?_,λj=>Bool.noConfusion j⟩,B⟩;rcases z with n|n
  .exact .inl n
  .refine .inr ?_;rcases h with h|h
   .rw[n.1]at h;exact Bool.noConfusion h
   .exact⟨h.1,by rw[h.2,n.2],B⟩
theorem ql.tolm(b:ql h c)(m:ho h)(l:jG e h W c w H x):lm h c e W w H x:=⟨λa f d=>by
 have g:=(e8.1 d).1;have this:e.rangeAt W (a*148) (cd h (bq c a) (w a) (H a) (x a:Int)).toList:=l.row a g;have j:bq c a=f:=by unfold bq;rw[b9,d];rfl
 rw[j]at this;exact this,b.n,b.z,b.ajm,m,b.ajl,λi k d=>(b.r i k d).1⟩
def yG(b:bJ)(a:af):List e1:=mH b.cF b.dj b.aH (bt a a.length).out 1 (bt a a.length).out
def vL(b:Nat->aq)(a:af):Nat->aq:=λc=>b ((bt a a.length).out.getD c h6).n
theorem VT(A:dA e)(p:dD)(i:gM a t g (λC=>C<b) (bt k b) d c m D)(l:oi k)(z:k.length=b)(h:ho a.s)(j:a.s.b8=true\/(a.cF=false/\a.dj=true))(B:a.s.W/16=(g:Int))(q:1<=a.q/\a.q<=31)(o:∀f,f<b->(t f).Ok/\((t f).w:Int)=a.s.W/\((t f).h:Int)=a.s.H)(n:jG e a.s W c w H x):Calls prog 12 #[.slice (ab W) c.length zA] e (Ul (yG a k) (vL m k) e):=by subst z;have s:=h.v;unfold et at s;exact ahJ e a.s c W zA w H x _ _ ((VS i l rfl h j Z).tolm h n) (VP A p i l rfl h j q B o λr u y=>n.bE r u y)
end
structure gQ where
 s:aD
 A:Qae
 n:Nat
 c:Nat
 T:Qae
 l8:Nat
 bw:Nat
 cF:Bool
 aH:Bool
 dj:Bool
 q:Int
def Ju(a:gQ):Qad:=#[.slice a.A a.n a.c,.slice a.T a.l8 a.bw,.bool a.cF,.bool a.aH,.bool a.dj,X a.q]
def iU(a:gQ):Qad:=ay a.s++Ju a
theorem Jv{a:gQ}:(iU a)[135+z]? =(Ju a)[z]? :=by unfold iU;rw[Array.getElem?_append_right ye,gr,ki]
theorem yH{b:gQ}:∀a,a<(ay b.s).size->(iU b)[0+a]? =(ay b.s)[a]? :=λa c=>by unfold iU;rw[c',Array.getElem?_append_left c]
theorem ajp{b:gQ}:∀a,a<(#[Value.bool b.cF,.bool b.aH,.bool b.dj]:Qad).size->(iU b)[137+a]? =(#[Value.bool b.cF,.bool b.aH,.bool b.dj]:Qad)[a]? :=λa c=>by rw[show 137+a=135+(2+a)from Z,Jv];have d:a<3:=c;have:a=0\/a=1\/a=2:=Z;rcases this with rfl|rfl|rfl<;>rfl
section
variable {J:af}{u e:N}{f:bX}{W:Nat}{T:Qat}{C:gQ}
theorem ao.bs(d:ao J u e f)(b:Nat)(c:f[b]? =some (W,T,iU C):=by rfl):e.cell? ⟨W,135,none⟩=some (.slice C.A C.n C.c)/\e.cell? ⟨W,136,none⟩=some (.slice C.T C.l8 C.bw)/\e.cell? ⟨W,137,none⟩=some (.bool C.cF)/\e.cell? ⟨W,138,none⟩=some (.bool C.aH)/\e.cell? ⟨W,139,none⟩=some (.bool C.dj)/\e.cell? ⟨W,140,none⟩=some (.int .i64 C.q):=by have a:=λz v(g:(Ju C)[z]? =some v)=>d.cl b (135+z) c (Jv.trans g);exact⟨a 0 _ rfl,a 1 _ rfl,a 2 _ rfl,a 3 _ rfl,a 4 _ rfl,a 5 _ rfl⟩
end
def ajq(a:gQ)(c:Nat->j6)(d:aj)(e:N)(f:Ending)(g:N):Prop:=∃b,f=.returned (.bool b)/\(b=true->a.n<=4/\CX a.s a.n a.l8 c d a.cF a.dj a.q)/\V [] e g
theorem ajr(g:N)(a:gQ)(H:nd a.s)(d:Nat->j6)(h:aj)(u:aF g a.A 5 a.n (cq (λc=>kS (d c)) a.n))(O:aF g a.T 1 a.l8 ((List.range a.l8).map λc=>X (h c))):Calls prog 4 #[iU a,X 4] g (ajq a d h g):=by
 by_cases p:a.n<=4
 .have I:=Y λm(n:V [] g m)=>agW m a.s H a.A a.n a.c a.l8 a.bw d a.T h a.cF a.aH a.dj a.q p (u.ad n) (O.ad n);have D:=Y u;have za:=Y p;have G:decide (4<(a.n:Int))=false:=aw;have b:=ao.nil [] g;go_in;go_wp2_with(refine b.aI _ (iU a) ?_;intro r A b;obtain⟨l,s,w,t,q,o⟩:=b.bs 0)
  have Q:(a.n:Int)<=4:=sU;go_loopw [5] (λi wr=>∃c:Nat,c<=a.n/\i=X c/\Hid (ao [] g wr [(r,32,iU a)])) (λi _=>a.n-(intOf i).toNat)
  .exact⟨0,Z,rfl,Y b⟩
  .obtain⟨c,zb,rfl,J⟩:=hrel;have b:=J.out;obtain⟨l,s,w,t,q,o⟩:=b.bs 0;by_cases K:c<a.n
   .have y:(c:Int)<(a.n:Int):=Z;obtain⟨F,zd,L,z⟩:=D.out.plain Z R;have k:=z (c*5+2) (.slice (d c).a (d c).n (d c).c) (by rw[oe (f:=λc=>kS (d c)) (d:=5) (λ_=>rfl) a.n c 2 K R];rfl);rw[<-gk]at k;have B:=(b.aa.au (f' _ _ k) U).trans k;rw[L]at l;refine aG ((d c).n) λj C=>?_;rw[C]at B;by_cases W:5000<j
    .have E:decide (5000<(j:Int))=true:=aw;go_wp2_with fail
     exact nv
    .have E:decide (5000<(j:Int))=false:=aw;go_wp2_with fail
     exact⟨⟨c+1,Z,a8,Y b⟩,bF⟩
   .have y:¬((c:Int)<(a.n:Int)):=Z;go_wp2_with(first|(refine b.cp 0 (ay a.s) (cH _) ?_ (o:=by exact yH))|(refine b.cp 0 (#[.bool a.cF,.bool a.aH,.bool a.dj]) TA ?_ (o:=by exact ajp)))
    refine(I.out _ b.aa).mono ?_;rintro e zc ⟨F,rfl,P,x⟩;go_wp2_with fail
    exact gJ rfl ⟨_,rfl,λe=>⟨za.out,P e⟩,b.aa.ad x⟩
 .have G:decide (4<(a.n:Int))=true:=aw;have b:=ao.nil [] g;go_in;go_wp2_with(refine b.aI _ (iU a) ?_;intro r A b;obtain⟨l,s,w,t,q,o⟩:=b.bs 0)
  exact nv
theorem ajs{e:Bool}{f bw:Nat}{a c:N}{d:Ending}(r:V [] u a)(j:Dx h zn e zo n b zr zt f zu zs bw g zl k a d c)(D:u.heap.size<=a.heap.size):Dx h zn e zo n b zr zt f zu zs bw g zl k u d c:=by obtain⟨i,t,z,s,B,p,l,m,C,o,x,A,w,y,q,F,E⟩:=j;exact⟨i,t,z,s,B,p,l,m,C,o,x,A,w,y,r.ad q,Z,Z⟩
theorem ajt(c:N)(a:gQ)(e h i g o d:Nat)(zb:a.A=some ⟨e,h,none⟩)(K:a.T=some ⟨i,g,none⟩)(H:a.l8=a.n)(z:a.q=(d:Int))(j:aj)(n:Nat->aq)(r:Nat->aK)(k:af)(t:pZ c a.s e h i g a.n j n r a.cF a.dj)(G:∀m,m<a.n->((k.getD m 0:Nat):Int)=j m)(C:1<=d/\d<=31)(I:dA c)(B:dD)(O:a.n<=4)(P:a.s.W/16=(o:Int)):Calls prog 6 #[iU a] c (Dx a.s a.cF a.aH a.dj d a.n e h a.c i g a.bw o n k c):=by
 have x:=Y λp(q:V [] c p)=>VD p a.s e h i g a.n a.c a.bw o d j n r a.cF a.aH a.dj k (t.ad q) G C (I.ad q) B O P;have f:=Y (And.intro zb (And.intro K (And.intro H z)));have b:=ao.nil [] c;go_in;go_wp2_with(first|(refine b.aI _ (iU a) ?_;intro zh zd b;obtain⟨za,J,zk,zi,zf,A⟩:=b.bs 0;rw[f.out.1]at za;rw[f.out.2.1,f.out.2.2.1]at J;rw[f.out.2.2.2]at A)|(refine b.cp 0 (ay a.s) (cH _) ?_ (o:=by exact yH)))
 refine(x.out _ b.aa).mono ?_;intro ze zj l;replace l:=ajs b.aa l b.size;obtain⟨s,E,L,D,W,y,u,w,zc,rfl,F⟩:=l;have Q:=Y F;go_wp2_with fail
 exact Hq rfl ⟨s,E,L,D,W,y,u,w,zc,rfl,Q.out⟩
structure s8(c:N)(a:j6)(d e v:af):Prop where
 VU:aF c a.a 1 a.n (aC d)
 VV:aF c a.b 1 a.vq (aC e)
 VW:aF c a.v 1 a.vr (aC v)
 d':d.length=a.n
 eM:e.length=a.vq
 aR:v.length=a.vr
 gy:∀b∈d,b<256
 fP:∀b∈e,b<256
 hV:∀b∈v,b<256
 cJ:a.n<=a.c
 cT:a.vq<=a.cT
 cm:a.vr<=a.yc
theorem s8.ad{c:j6}{d f v:af}(a:s8 e c d f v)(b:V [] e zb):s8 zb c d f v:=⟨a.VU.ad b,a.VV.ad b,a.VW.ad b,a.d',a.eM,a.aR,a.gy,a.fP,a.hV,a.cJ,a.cT,a.cm⟩
structure Jw(b:N)(a:gQ)(c:Nat->j6)(d:aj)(f e aL:Nat->List Nat):Prop where
 i:nd a.s
 kj:hT a.s.a
 fP:hT a.s.b
 fg:aF b a.A 5 a.n (cq (λi=>kS (c i)) a.n)
 VX:aF b a.T 1 a.l8 ((List.range a.l8).map λi=>X (d i))
 pl:∀i,i<a.n->s8 b (c i) (f i) (e i) (aL i)
def pe(b:Nat)(a:aj):af:=(List.range b).map λc=>(a c).toNat
theorem VY(a:L<b):(pe b za).getD L 0=(za L).toNat:=by unfold pe;rw[b9,fx,qN a];rfl
def qm(b:Nat->j6)(d c aL:Nat->List Nat)(a:Nat):aq:=⟨(b a).w.toNat,(b a).h.toNat,d a,c a,aL a⟩
def DC(a:Nat->j6)(b:Nat):aK:=⟨(a b).a,(a b).b,(a b).v,(a b).c,(a b).cT,(a b).yc⟩
structure aju(j:N)(a:gQ)(c:aj)(d:Nat->aq)(k:Nat->aK)(g i h f m q:Nat):Prop where
 ajv:a.A=some ⟨g,i,none⟩
 ajw:a.T=some ⟨h,f,none⟩
 l8:a.l8=a.n
 ajx:a.q=(q:Int)
 q1:1<=q/\q<=31
 e:pZ j a.s g i h f a.n c d k a.cF a.dj
 ajy:∀b,b<a.n->(((pe a.n c).getD b 0:Nat):Int)=c b
 ok:oi (pe a.n c)
 len:(pe a.n c).length=a.n
 VZ:a.n<=4
 hm:a.s.W/16=(m:Int)
 ry:∀b,b<a.n->(d b).Ok/\((d b).w:Int)=a.s.W/\((d b).h:Int)=a.s.H
 b8:a.s.b8=true\/(a.cF=false/\a.dj=true)
theorem ajz{d:gQ}{b:Nat->j6}{h i aL:Nat->List Nat}(j:Jw e d b za h i aL)(P:d.n<=4)(G:CX d.s d.n d.l8 b za d.cF d.dj d.q):∃p t w s W q,aju e d za (qm b h i aL) (DC b) p t w s W q:=by
 obtain⟨Q,zp,⟨zs,_,zd,o,D,K⟩,A,B⟩:=G;have y:ho d.s:=⟨lD.1 Q,j.i,j.kj,j.fP⟩;have I:=y.v;unfold et at I;obtain⟨p,t,zj,ze⟩:=j.fg.plain Z R;obtain⟨w,s,zf,zl⟩:=j.VX.plain Z R;have x:∀a,a<d.n->(qm b h i aL a).Ok/\((qm b h i aL a).w:Int)=d.s.W/\((qm b h i aL a).h:Int)=d.s.H:=λa g=>by
  obtain⟨⟨aO,H,zi,zq,zr⟩,zt,zn⟩:=A a g;have c:=j.pl a g;obtain⟨k,C⟩:∃k:Nat,(b a).w=(k:Int):=⟨(b a).w.toNat,Z⟩;obtain⟨l,E⟩:∃l:Nat,(b a).h=(l:Int):=⟨(b a).h.toNat,Z⟩;have m:(qm b h i aL a).w=k:=by show(b a).w.toNat=k;omega
  have n:(qm b h i aL a).h=l:=by show(b a).h.toNat=l;omega
  have zk:(h a).length=k*l:=by have:=zi;rw[C,E,<-pB]at this;rw[c.d'];omega
  have zo:(b a).w/2*((b a).h/2)=((k/2*(l/2):Nat):Int):=by rw[C,E,pB];rfl
  have J:(i a).length=k/2*(l/2):=by rw[c.eM];omega
  have zh:(aL a).length=k/2*(l/2):=by rw[c.aR];omega
  refine⟨⟨by rw[m];omega,by rw[m];omega,by rw[m];omega,by rw[n];omega,by rw[n];omega,by rw[n];omega,by rw[m,n];exact zk,by rw[m,n];exact J,by rw[m,n];exact zh,c.gy,c.fP,c.hV⟩,by rw[m];omega,by rw[n];omega⟩
 have zc:∀a,a<d.n->(((pe d.n za).getD a 0:Nat):Int)=za a:=λa g=>by rw[VY g];have:=o a g;omega
 have F:(pe d.n za).length=d.n:=by simp[pe]
 refine⟨p,t,w,s,(d.s.W/16).toNat,d.q.toNat,zj,zf,zd,Z,Z,⟨y,⟨λa g=>?_,o,D,K,Z⟩,⟨λa g u O r=>?_,λa g=>?_,x,Z⟩,B⟩,zc,⟨Z,λzu zm=>?_,?_,?_⟩,F,P,Z,x,B.imp id λq=>q.2⟩
 .exact zl a _ (by simp[show a<d.l8 from Z])
 .obtain⟨⟨aO,H,_⟩,_⟩:=A a g;have c:=j.pl a g;have L:al (qm b h i aL a) (DC b a)=kS (b a):=by unfold al kS qp qm DC;simp only[c.d',c.eM,c.aR,kR (show 0<=(b a).w from Z),kR (show 0<=(b a).h from Z)]
  rw[L]at r;have zb:u<5:=(e8.1 r).1;have z:=ze (a*5+u) O (by rw[oe (f:=λa=>kS (b a)) (d:=5) (λ_=>rfl) d.n a u g zb,<-eo];exact r);rw[<-gk]at z;exact z
 .have c:=j.pl a g;refine⟨?_,?_,?_,?_,?_,?_⟩
  .show aF e (b a).a 1 (h a).length _;rw[c.d'];exact c.VU
  .show aF e (b a).b 1 (i a).length _;rw[c.eM];exact c.VV
  .show aF e (b a).v 1 (aL a).length _;rw[c.aR];exact c.VW
  .show(h a).length<=(b a).c;rw[c.d'];exact c.cJ
  .show(i a).length<=(b a).cT;rw[c.eM];exact c.cT
  .show(aL a).length<=(b a).yc;rw[c.aR];exact c.cm
 .obtain⟨a,g,rfl⟩:=ca.1 zm;have:=o a (fq.1 g);omega
 .unfold pe;rw[List.head?_map,List.head?_range];split
  .omega
  .show some (za 0).toNat=some 1;rw[D];rfl
 .rw[r6,r7,<-b9,F,VY Z];have:=o (d.n-1) Z;omega
def V0(h g f:Bool)(a:af):Bool:=let b:=(bt a a.length).out;let e:=mH h g f b 1 b;(List.range a.length).all λd=>(List.range a.length).any λc=>(dT e c).shown==(d:Int)&&(b.getD c h6).n==d
theorem ajA:∀b c d:Bool,∀a∈sG,a.getLastD 0≠3->V0 b c d a=true:=bm
theorem V1{c:bJ}(e:oi k){b:Nat}(g:b<k.length):∃a,a<k.length/\(dT (yG c k) a).shown=(b:Int)/\vL m k a=m b:=by have f:=ajA c.cF c.dj c.aH k (xN e) e.2.2.2;unfold V0 at f;have i:=ke.1 f b (fq.2 g);obtain⟨a,h,d⟩:=List.any_eq_true.1 i;simp only[dB,iz]at d;exact⟨a,fq.1 h,d.1,by unfold vL;rw[d.2]⟩
def hr(a b:Nat->Nat):Nat->Nat->Nat
 |0=>λ_=>0
 |L+1=>aJ (hr a b L) (b L) (a L)
theorem V2{f d:Nat->Nat}{e:Nat}:∀a,(∀b,b<a->d b≠e)->hr f d a e=0
 |0,_=>rfl
 |a+1,c=>by rw[hr,aJ,M λg=>c a Z g.symm,V2 a λb h=>c b Z]
theorem V3{e c:Nat->Nat}{b:Nat}:∀a,b<a->(∀d,d<a->c b=c d->b=d)->hr e c a (c b)=e b
 |0,g,_=>absurd g (fT _)
 |a+1,g,f=>by
  rw[hr,aJ];by_cases E:c b=c a
  .rw[ae E,f a Z E]
  .rw[M E];exact V3 a (by by_cases h:b=a;exact absurd (aX c h) E;omega) λd i=>f d Z
theorem V4{c f:Nat->Nat}{e g:Nat}:∀a,(∀b,b<a->c b<=e)->hr c f a g<=e
 |0,_=>jo _
 |a+1,d=>by
  rw[hr,aJ];split
  .exact d a Z
  .exact V4 a λb h=>d b Z
theorem V5{f d:Nat->Nat}{c:Nat}:∀a,(∀b,b<a->f (c+b)=d (c+b))->iS f c a=iS d c a
 |0,_=>rfl
 |a+1,e=>by rw[iS,iS,V5 a λb g=>e b Z,e a Z]
theorem V6{e:aD}{a:List aE}{d:Nat->Nat}{b:Nat}:∀c,8*(ek e a d (b+c)).length=8*(ek e a d b).length+iS (dW e a d) b c
 |0=>rfl
 |c+1=>by have f:=V6 (e:=e) (a:=a) (d:=d) (b:=b) c;rw[<-gk,ek,aZ,iS,aZ,hy];unfold dW at f⊢;omega
section
variable {p:List bi}{f b:Nat}{zd l:Nat->Nat}
theorem j7.iG(d:j7 p f b zd l){a:Nat}(c:a<f):l a<=fB l f b a/\fB l f b a<b:=by have:=d.k' a c;unfold fB;split<;>omega
theorem j7.bs(a:j7 p f b zd l){z:Nat}(c:z<f):gj l z<=l z:=by
 have:=a.k' z c;unfold gj;split
 .omega
 .have d:=a.aa (z-1) Z;rw[show z-1+1=z from Z]at d;omega
theorem j7.lt(e:j7 p f b zd l){c:Nat}:∀a,c<a->a<f->fB l f b c<gj l a
 |0,d,_=>absurd d (fT _)
 |a+1,d,h=>by
  have E:gj l (a+1)=l a+1:=by unfold gj;rw[M Z,EK]
  by_cases g:c=a
  .subst g;rw[E];unfold fB;rw[M Z];omega
  .have i:=j7.lt (c:=c) e a Z Z;have j:=e.bs (z:=a) Z;omega
theorem j7.inj(a:j7 p f b zd l){e d:Nat}(h:e<f)(g:d<f)(m:fB l f b e=fB l f b d):e=d:=by
 rcases F3 e d with c|c|c
 .have j:=a.lt d c g;have k:=a.bs g;have i:=a.iG g;omega
 .exact c
 .have j:=a.lt e c h;have k:=a.bs h;have i:=a.iG h;omega
theorem j7.pad(d:j7 p f b zd l){g:aD}{e:List aE}(c:Nat->Nat){a:Nat}(k:a<f):rp l (dW g e (hr c (fB l f b) f)) f b a=mw (rp l (dW g e λ_=>0) f b a) (c a:Int):=by
 have x:=d.bs k;have A:=d.iG k;obtain⟨h,r⟩:∃h,fB l f b a=gj l a+h:=⟨fB l f b a-gj l a,Z⟩;have i:iS (dW g e (hr c (fB l f b) f)) (gj l a) (fB l f b a+1-gj l a)=iS (dW g e λ_=>0) (gj l a) (fB l f b a+1-gj l a)+8*c a:=by
  rw[show fB l f b a+1-gj l a=h+1 from Z,iS,iS,V5 (d:=dW g e λ_=>0) h λt z=>?_]
  .have o:=V3 (e:=c) (c:=fB l f b) (b:=a) f k λn m i=>d.inj k m i;rw[r]at o;have s:dW g e (hr c (fB l f b) f) (gj l a+h)=dW g e (λ_=>0) (gj l a+h)+c a:=by unfold dW;rw[o];show _= _+0+_;omega
   rw[s];omega
  .unfold dW;rw[V2 f λn m i=>?_];rcases F3 n a with j|j|j
   .have:=d.lt a j k;omega
   .rw[j]at i;omega
   .have w:=d.lt n j m;have y:=d.bs m;have u:=d.iG m;omega
 unfold rp mw;rw[i];generalize iS _ _ _=q;rw[show((q+8*c a:Nat):Int)=(q:Int)+8*(c a:Int)from Z]
def kY(b d:Nat->Nat)(a c:Nat):List bi:=(List.range a).map (rp b d a c)
theorem qn(b d:Nat->Nat)(a c:Nat):(kY b d a c).length=a:=by simp[kY]
theorem V7(c e:Nat->Nat){a d b:Nat}(f:b<a):(kY c e a d)[b]? =some (rp c e a d b):=by simp[kY,f]
def iV(b:List Int)(a:Nat):Nat:=(b.getD a 0).toNat
theorem j7.eZ(m:j7 p f b zd l){c:aD}{d:List aE}{i:Int}{a:List Int×Int}(r:fS c (kY l (dW c d λ_=>0) f b) i=true)(k:eZ c (kY l (dW c d λ_=>0) f b) i=some a):kY l (dW c d (hr (iV a.1) (fB l f b) f)) f b=bk (kY l (dW c d λ_=>0) f b) a.1:=by
 obtain⟨v,s,n,_,o⟩:=uj r;have j:=ul _ k;have q:=Bv (lD.1 v).ok _ _ _ o n k;rw[qn]at j;apply oM;intro h;by_cases g:h<f
 .rw[V7 _ _ g,m.pad (iV a.1) g];have e:a.1[h]? =some (a.1[h]'Z):=cu _;rw[aan (V7 _ _ g) e];have:=(q _ (bS e)).1;unfold iV;rw[b9,e,lE,kR this]
 .rw[fN (by rw[qn];omega),fN (by rw[Nv (by rw[qn];exact j),qn];omega)]
theorem j7.run(i:j7 p f b zd l){a:aD}{d:List aE}{g:Int}{c:List Int×Int}(m:fS a (kY l (dW a d λ_=>0) f b) g=true)(k:Go.Proofs.YtdmdbgabjcbjiaaGreatDoor.eZ a (kY l (dW a d λ_=>0) f b) g=some c) (z:(ek a d (hr (iV c.1) (fB l f b) f) b).length<=1048576):∃j,mv a (kY l (dW a d (hr (iV c.1) (fB l f b) f)) f b) g=(j,0):=by
 obtain⟨v,y,u,_,r⟩:=uj m;have n:=i.eZ m k;have q:=aaq m k λx o=>by rw[<-n]at o;obtain⟨e,h,rfl⟩:=ca.1 o;have h:=fq.1 h;have q:=i.bs h;have A:=i.iG h;have w:=V6 (e:=a) (a:=d) (d:=hr (iV c.1) (fB l f b) f) (b:=gj l e) (fB l f b e+1-gj l e);have t:=RG a d (hr (iV c.1) (fB l f b) f) (show gj l e+(fB l f b e+1-gj l e)<=b from Z);show((iS _ _ _:Nat):Int)<=8388608;omega
 obtain⟨j,s⟩:=Nx (lD.1 v) _ g c r k;rw[n];exact⟨j,Nu q (by unfold kH;rw[s]) R⟩
end
theorem V8(a:r:=by intro z a;show 0<=(if z<64 then(16:Int)else 0)/\(if z<64 then(16:Int)else 0)<=255;split<;>decide):r:=a
theorem V9:ho (ir 64):=by
 refine⟨bm,⟨⟨R,R⟩,⟨R,R⟩,⟨R,R⟩,⟨R,R⟩,⟨R,R⟩,⟨R,R⟩⟩,?_,?_⟩
 .exact V8
 .exact V8
theorem V':bZ.Ok:=sg R R R R R R R R R
def Wa(d:N)(e:Ending)(a:N):Prop:=∃b c,e=.returned (.slice (ab b) 1 1)/\a.rangeAt b 0 (al bZ c).toList/\aT a bZ c/\V [] d a
def ajB(f:N)(h:Ending)(e:N):Prop:=∃g b c d,h=.returned (.tuple #[.slice (ab b) d c,.slice (ab g) 1 1,X 0])/\(∀a,V [] e a->Calls prog 12 #[.slice (ab b) d c] a (Wa a))/\V [] f e
theorem ajC{a c b:Nat}:yG (h5 (ir 64) false false true 8 1 a 0 1 c 0 1 b) [1]=[⟨2,2,1,-1,-1,0,⟨1,3,0,true,false,false⟩⟩]:=ar
theorem ajD:oi [1]:=⟨R,R,rfl,R⟩
theorem ajE(c:N)(j f:Nat)(d:aK)(q:dA c)(o:dD)(F:ag c j 71 (al bZ d))(H:ag c f 3 #[X 1])(i:aT c bZ d):Calls prog 18 #[ay (ir 64),.slice (ab j) 1 1,.slice (ab f) 1 1,.agg #[.bool false,.bool false,.bool true],X 8] c (ajB c):=by
 have k:∀a,a<1->bZ.Ok/\((bZ.w:Nat):Int)=(ir 64).W/\((bZ.h:Nat):Int)=(ir 64).H:=λ_ _=>⟨V',rfl,rfl⟩;have t:pZ c (ir 64) j 0 f 0 1 (λ_=>1) (λ_=>bZ) (λ_=>d) false true:=by
  refine⟨V9,⟨λa i=>?_,λ_ _=>⟨R,R⟩,rfl,R,R⟩,⟨λa i b C h=>?_,λ_ _=>i,k,R⟩,.inr ⟨rfl,rfl,rfl⟩⟩
  .obtain rfl:a=0:=Z;rw[H.au];rfl
  .obtain rfl:a=0:=Z;rw[show 0+0*5+b=b from Z,F.au,<-eo];exact h
 have O:∀a,a<1->(((([1]:af).getD a 0:Nat)):Int)=1:=λa i=>by obtain rfl:a=0:=Z;rfl
 refine(VD c (ir 64) j 0 f 0 1 1 1 1 8 (λ_=>1) (λ_=>bZ) (λ_=>d) false false true [1] t O R q o R R).mono ?_;rintro B za ⟨u,p,r,z,zl,zb,w,W,zd,rfl,m,D,zk,zh,g,zc,zj⟩;refine⟨u,p,r,z.length,rfl,λQ l=>?_,g⟩;have A:=VT (W:=p) (zA:=r) ((q.ad g).ad l) o m ajD rfl V9 (.inr ⟨rfl,rfl⟩) (show(16:Int)/16=((1:Nat):Int)from R) (show 1<=8/\8<=31 from R) k (D.ad l);have n:vL w [1] 0=bZ:=by obtain⟨ze,_,x⟩:=m.it;have P:=x ⟨0,1,0,none,none,some (true,0)⟩ (df.2 rfl);obtain⟨zi,e,_⟩:=P.1 rfl;exact aiP e
 refine A.mono ?_;rintro B zm ⟨G,zf,y,rfl,I,E,J,L,_⟩;rw[ajC]at*;have s:=J 0 R;rw[n]at s;refine⟨y,G 0,rfl,λb C h=>?_,s,L⟩;have g:b<5:=(e8.1 h).1;rw[c',I.au];have e:=E.2 0 R b Z;have K:(dT [(⟨2,2,1,-1,-1,0,⟨1,3,0,true,false,false⟩⟩:e1)] 0).shown.toNat*11+b=b:=by show 0*11+b=b;omega
 rw[K]at e;rw[e,<-h,<-eo];unfold ot;rw[n];match b,g with
 |0,_|1,_|2,_|3,_|4,_=>rfl
namespace cr
section
variable {O:Qav}{ze:Region.Mode}{y:Qak}{zc:Qab}{zp:N}
def Jx(e:Region.Mode)(b:Qak)(a:Qaq):Bool:=(List.range b.size).all λc=>match b[c]? with
 |some f=> !(a.getD c false)||f.after.all λd=> !(Region.binds e d)||a.getD d.on false
 |none=>true
theorem ajF(g:Jx ze y zw=true):Shut ze y zw:=λf j a e h c i=>by have b:=ke.1 g f (fq.2 (ht.1 a).1);simp only[a,e,Bool.not_true,tj]at b;have d:=Array.all_eq_true'.1 b h c;simpa[i]using d
theorem ajG(b:Nat){g:Nat}{f:Qax}{v:Qas}{a:Qaq}{e:Act}{d:N}(c:(Jx ze y a&&(Region.free ze y a b&&((Region.ready ze y a).contains b&&Region.noSelect y)))=true)(h:y[b]? =some f)(o:V [] zp d)(j:hx O ze y [] zp zc g (a.setIfInBounds b true) (e.put f.dst v) d) (l:YieldsIf O y (h9 (bA []) false zp) f v e):hx O ze y [] zp zc (g+1) a e d:=by simp only[dB]at c;exact Lw (zu:=[b]) (bV:=[]) rfl (df.2 rfl) h c.2.2.2 g a e d (ajF c.1) (λp q n m i k=>vV h c.2.1 p q n m i k) (by simpa using c.2.2.1) o l j
end
end cr
theorem Jy{c:N}(b:Nat){g:Nat}{f:Qax}{v:Qas}{a:Qaq}{e:Act}{d:N}(l:V [] c d)(j:hx prog .any y [] c zc g (a.setIfInBounds b true) (e.put f.dst v) d) (h:(Jx .any y a&&(Region.free .any y a b&&((Region.ready .any y a).contains b&&Region.noSelect y)))=true:=by decide+kernel) (i:y[b]? =some f:=by rfl) (k:YieldsIf prog y (h9 (bA []) false c) f v e:=by(apply cr.vX rfl rfl rfl;intro zb b d c a;(go_wp2_with fail)<;>exact a.out)):hx prog .any y [] c zc (g+1) a e d:=ajG b h i l j k
theorem ao.sub{g:af}{f h:bX}(a:ao g u e f)(d:h.Sublist f):ao g u e h:=⟨a.aa,λb c=>a.b b (d.subset c),a.d.sublist (d.map _),λb c=>a.n b (d.subset c)⟩
def Wb(a:N)(c:Ending)(b:N):Prop:=c=.returned (.bool true)/\V [] a b
theorem Jz(c a:Nat)(b:bj c->bj a->r:=by
 intro zJ zr;refine x6 5 ?_;clear a f;intro f a;go_wp2_with fail
 refine(E.out _ j m b.aa (b.ai zJ rfl) (b.ai zr rfl)).mono ?_;rintro e zt ⟨r,q,p,d,rfl,ak,y⟩;have t:=Y ak;replace b:=b.aS y;replace g:=g.ad y;clear y ak;go_wp2_with fail
 refine a _ _ (λ_=>g) ?_;clear a f;try simp only[az]
 refine H9 6 λf a=>?_;go_wp2_with fail
 refine a _ _ (λ_=>g) ?_;clear a f;try simp only[az]
 refine Jy 7 g ?_;try simp only[az]
 refine Jy 8 g ?_;try simp only[az]
 refine Jy 9 g ?_;try simp only[az]
 refine x' 10 λf a=>?_;go_wp2_with fail
 refine a _ _ (λ_=>g) ?_;clear a f;try simp only[az]
 refine tD (a:=11) bm rfl λf a=>?_;go_wp2_with fail
 refine a _ _ (λ_=>g) ?_;clear a f;try simp only[az]
 refine tD (a:=12) bm rfl λf a=>?_;go_wp2_with fail
 refine a _ _ (λ_=>g) ?_;clear a f;try simp only[az]
 refine tC bm ?_ _;exact zj.out _ _ ar ⟨r,q,p,d,ar,ar,ar,t,Y (b.sub (.cons _ (.cons _ (.refl _))))⟩):r:=b ⟨⟩ ⟨⟩
theorem Wc(c a:Nat)(b:bj c->bj a->r:=by
 intro zn zs;replace b:=b.aP c k n;replace g:=g.ad k;clear c k n;refine x6 0 ?_;clear a f;intro f a;go_wp2_with fail
 refine(CI _).mono ?_;rintro e z7 ⟨rfl,c⟩;go_wp2_with fail
 replace b:=b.aS c;replace g:=g.ad c;clear c;exact Jz zn zs):r:=b ⟨⟩ ⟨⟩
theorem ajH(a:r:=by refine vM ?_;clear b g;intro m zP b g;exact Jz 1 0):r:=a
theorem ajI(a:r:=by refine vM ?_;clear b g;intro j zT b g;exact Jz 0 1):r:=a
theorem Wd(a:r:=by refine x6 2 ?_;clear a f;intro f a;refine e' underlying27 (al bZ h) rfl rfl ar ?_;exact ajI):r:=a
theorem We(a:r:=by refine x6 3 ?_;clear a f;intro f a;refine e' underlying28 (#[X 1]) rfl rfl ar ?_;exact ajH):r:=a
theorem vM(a:K)(b:K->r:=by intro zq;intro j zb c k n;replace b:=b.aP c k n;replace g:=g.ad k;clear c k n;revert j zb b g;exact zq):r:=b a
theorem JA(a:K)(b:K->r:=by intro zi;refine nN (l:=2) rfl λf a=>?_;refine e' underlying27 (al bZ h) rfl rfl ar ?_;revert f a;exact zi):r:=b a
theorem JB(a:K)(b:K->r:=by intro zE;refine nN (l:=3) rfl λf a=>?_;refine e' underlying28 (#[X 1]) rfl rfl ar ?_;revert f a;exact zE):r:=b a
theorem ajJ(w:N)(D:dA w)(za:dD):Calls prog 5 #[] w (Wb w):=by
 go_in;go_wp2_with fail
 refine(afR w).mono ?_;rintro e I ⟨zf,zA,zo,rfl,s⟩;have zC:=Y s.S;have z:=Y s.is;have zu:=Y (D.ad s.S);have zh:=Y za;clear s D za;generalize bb bZ zf zA zo=h at z⊢;have b:=ao.nil [] I;refine aG (al bZ h) λH W=>?_;have zD:H=#[.int .i64 16,.int .i64 16,.slice h.a 256 h.cJ,.slice h.b 64 h.cT,.slice h.c 64 h.cm]:=by rw[<-W];rfl
 go_wp2_with(first|(refine b.aH eh bY ?_;clear b;intro zz zX b)|(refine b.aN 0 (al bZ h) aB (bo _ _) ?_;clear b;intro zk b))
 clear zD W H;have E:=Y λi j m(o:V [] I i)(zB:ag i j 71 (al bZ h))(zF:ag i m 3 #[X 1])=>ajE i j m h (zu.out.ad o) zh.out zB zF (z.out.ad o);refine Uy 2 15 (λv i=>∃r q p d,v 2=.slice (ab q) d p/\v 3=.slice (ab r) 1 1/\v 4=X 0/\Hid (∀x,V [] i x->Calls prog 12 #[.slice (ab q) d p] x (Wa x))/\Hid (ao [] I i [(zz,71,al bZ h)])) ?_ ?_
 .intro z1 zj;replace b:=b.bd;have g:=V.refl [] zk.drew;have J:=(b.ai 0 rfl).r8 (x:=0) (aL:=al bZ h) λzl zI=>by rw[c']
  refine Au [1,4] [] 11 ar ar ar ar rfl ?_;simp only[ga,nth,Nat.reduceMod,Nat.reduceDiv,cz,dv,c'];refine iR (aL:=al bZ h) J aB ?_;refine ax ?_;clear J;refine jt 0 [2,3] bm (bf.2 ⟨?_,bf.2 ⟨?_,bf.2 ⟨?_,λ_ l=>absurd l (eC)⟩⟩⟩)
  .refine nN (l:=0) rfl λf a=>?_;go_wp2_with fail
   refine(CI _).mono ?_;rintro e zL ⟨rfl,c⟩;go_wp2_with fail
   replace b:=b.aS c;replace g:=g.ad c;clear c;refine vh ?_;clear a f;refine jt 2 [3] bm (bf.2 ⟨?_,bf.2 ⟨?_,λ_ l=>absurd l (eC)⟩⟩)
   .refine JA λf a=>?_;refine vM ?_;clear b g;intro j zb b g;exact We
   .refine JB λf a=>?_;refine vM ?_;clear b g;intro m zY b g;exact Wd
  .refine JA λf a=>?_;refine vM ?_;clear b g;intro j zU b g;refine vh ?_;clear a f;refine jt 0 [3] bm (bf.2 ⟨?_,bf.2 ⟨?_,λ_ l=>absurd l (eC)⟩⟩)
   .refine nN (l:=0) rfl λf a=>?_;go_wp2_with fail
    refine(CI _).mono ?_;rintro e zQ ⟨rfl,c⟩;go_wp2_with fail
    replace b:=b.aS c;replace g:=g.ad c;clear c;exact We
   .refine JB λf a=>?_;intro m zt c k n;exact Wc 1 0
  .refine JB λf a=>?_;refine vM ?_;clear b g;intro m zS b g;refine vh ?_;clear a f;refine jt 0 [2] bm (bf.2 ⟨?_,bf.2 ⟨?_,λ_ l=>absurd l (eC)⟩⟩)
   .refine nN (l:=0) rfl λf a=>?_;go_wp2_with fail
    refine(CI _).mono ?_;rintro e zZ ⟨rfl,c⟩;go_wp2_with fail
    replace b:=b.aS c;replace g:=g.ad c;clear c;exact Wd
   .refine JA λf a=>?_;intro j z6 c k n;exact Wc 0 1
 .rintro v i ⟨r,q,p,d,K,G,C,t,B⟩;clear b E;have b:=B.out;clear B;simp only[rh,List.range',r3,vm,az,Nat.reduceAdd];generalize v 2=zO at K;generalize v 3=zN at G;generalize v 4=g' at C;subst K G C;go_wp2_with fail
  refine(t.out _ (V.refl _ _)).mono ?_;rintro e zp ⟨zW,O,rfl,Q,P,F⟩;replace b:=b.aS F;have zv:=Y Q;have zm:=Y λi(o:V [] zp i)=>RN i bZ O h (P.ad o) (z.out.ad (b.aa.ad o)) V';clear F t Q P;go_wp2_with fail
  replace b:=b.bd;refine E5 118 20 ?_;refine Xd ?_;refine iR (aL:=al bZ O) zv.out aB ?_;simp only[az];refine iR (aL:=al bZ h) ((b.ai 0 rfl).r8 (x:=0) (aL:=al bZ h) λzl zI=>by rw[c']) aB ?_;simp only[az];refine bN (zm.out _ ((V.refl _ _).drew)) ?_;refine uB ?_;clear b;intro zV zR b;refine ax ?_;go_wp2_with fail
  exact gJ rfl ⟨rfl,zC.out.ad b.aa⟩
theorem dQ.reads{g a:Nat}{d:Nat->Array Value}(f:∀c,(d c).size=a)(o:0<a)(m:dQ e g a b d):aF e (some ⟨g,0,none⟩) a b (cq d b):=⟨ns f b,λ_=>⟨_,rfl,λc n i=>by
 have h:=(e8.1 i).1;rw[ns f]at h;have l:c/a<b:=xe (by rw[eF];exact h);have j:c/a*a+c%a=c:=by rw[eF];exact xf _ _
 have k:=m (c/a) l (c%a) n (by rw[eo,<-oe f b _ _ l (nc _ o),j];exact i);rw[j]at k;rw[ox,c'];exact k⟩⟩
theorem Wf(b:Nat->bi):∀a,jO ((List.range a).map b)=cq (λc=>du (b c)) a
 |0=>rfl
 |a+1=>by rw[mm,hf,Yq,Wf b a,mE];rfl
theorem Wg{a h:Nat}{T:Qat}{c:Nat->Nat}(i:ag e a T zm)(d:dr zm h 4 f (cq (λg=>du (rp c zy f b g)) f)):aF e (some ⟨a,0,none⟩) 4 f (jO (kY c zy f b)):=by unfold kY;rw[Wf];exact aF.nG (mC i d)
theorem jG.news{d:Nat}(g:jG e h d c w H x)(f:c.length=b):aF e (some ⟨d,0,none⟩) 148 b (cq (λa=>cd h (bq c a) (w a) (H a) (x a:Int)) b):=dQ.reads (λ_=>o0 _ _ _ _ _) R (f▸g.row)
theorem Wh{j:aD}{c:List aE}{f:Nat->Option Addr}{i h:Nat->Nat}:∀a,∀d∈cq (λe=>cd j (bq c e) (f e) (i e) (h e:Int)) a,d.oneCell'=true
 |0,d,b=>absurd b (eC)
 |a+1,d,b=>by
  rw[mE]at b;rcases bc.1 b with b|b
  .exact Wh a d b
  .have g:=l1 (bq c a).kind ((bq c a).xV j) (bq c a).cl (bq c a).pQ (bq c a).ej (f a) (bq c a).bE.length (i a) (h a:Int);rw[kw]at g;exact g d (Array.mem_toList_iff.1 b)
theorem ql.ajK(b:ql h c)(r:ho h)(a:Nat):gW h (bq c a):=by
 by_cases e:a<c.length
 .exact b.ok a e
 .have d:bq c a=.aQ:=by unfold bq;rw[b9,fN Z];rfl
  rw[d];exact Vn
def s9(a:List aE):Nat:=(dm (a.map aE.ak) a.length).length
def DD(a:List aE)(b:Nat):Nat:=(ez (dm (a.map aE.ak) a.length) b).b.toNat
theorem Wi{f:Nat}(d:ql h c)(m:ho h)(l:dA e)(j:dD)(k:jG e h f c w H x)(i:c.length=b)(g:∀a,x a<=1048576):Calls prog 7 #[.slice (ab f) b P] e (T2 (dW h c x) (DD c) (s9 c) b e):=by subst i;refine ahj e h f P c.length c w H x k rfl d.n d.ok (λa _=>g a) l j d.VR d.ajn λa=>?_;have:=HJ (d.ajK m a);have:=g a;unfold dW;omega
theorem ajL(a:List aE):j7 (dm (a.map aE.ak) a.length) (s9 a) a.length (λb=>(ez (dm (a.map aE.ak) a.length) b).a.toNat) (DD a):=T0 _ _
def nF(b:List aE)(c:Nat->Nat):List (aE×Nat):=(List.range b.length).map λa=>(bq b a,c a)
theorem ajM(a:List aE)(b:Nat->Nat):(nF a b).length=a.length:=by simp[nF]
theorem Wj{a:Nat}(b:a<c.length):ey (nF c x) a=(bq c a,x a):=by unfold ey nF;rw[b9,fx,qN b];rfl
theorem Wk(a:List aE)(d:Nat->Nat):(nF a d).map (·.1)=a:=by
 unfold nF;rw[AE];apply oM;intro b;rw[fx];by_cases c:b<a.length
 .rw[qN c];show some (bq a b)= _;unfold bq;rw[b9,cu c];rfl
 .rw[fN (by rw[nP];omega),fN Z];rfl
theorem Wl{g:aD}{c:List aE}{f e:Nat->Nat}:∀a,(∀b,b<a->f b=e b)->ek g c f a=ek g c e a
 |0,_=>rfl
 |a+1,d=>by rw[ek,ek,Wl a λb h=>d b Z,d a Z]
def Wm(j:aD)(b:List aE)(i:Nat->Nat)(d:N)(f:Ending)(c:N):Prop:=∃(a g:Nat)(e:Nat->Option Addr)(h:Nat->Nat),f=.returned (.tuple #[.slice (ab a) b.length g,.slice none 0 0,X 0])/\jG c j a b e h i/\V [] d c
theorem ajN{iE:Qae}(i:ql h c)(y:dA e)(q:dD)(w:∀a,x a<=1048576)(r:(ek h c x c.length).length<=1048576)(A:aF e iE 1 (ek h c x c.length).length (aC (ek h c x c.length)))(n:(ek h c x c.length).length<=P):Calls prog 10 #[.slice iE (ek h c x c.length).length P] e (Wm h c x e):=by
 have m:∀b∈nF c x,gW h b.1/\b.2<=1048576:=λb j=>by obtain⟨a,g,rfl⟩:=ca.1 j;exact⟨i.ok a (fq.1 g),w a⟩
 have d:=ajM c x;have f:cg (fK h (gA (nF c x)))=ek h c x c.length:=by have a:=Sx (nF c x) (λb j=>(m b j).1) (nF c x).length (a' _);rw[wK,Wk,d]at a;rw[a];exact Wl _ λC u=>by rw[Wj u]
 have s:nF c x≠[]:=λf=>by rw[f]at d;have:=i.ja;simp at d;omega
 refine(agf e h (nF c x) iE P _ f y q m s (by rw[d];exact i.n) r A n).mono ?_;rintro f D ⟨t,z,o,B,rfl,k,_,p,_⟩;rw[Wk]at k;rw[d];refine⟨t,z,o,B,rfl,⟨λa g=>?_,k.bE⟩,p⟩;have l:=k.row a g;simp only[Wj g]at l;exact l
def Wn(b c d:Bool)(a:af):Bool:=(mH b c d (bt a a.length).out 1 (bt a a.length).out).length==a.length
theorem ajO:∀b c d:Bool,∀a∈sG,a.getLastD 0≠3->Wn b c d a=true:=bm
theorem Wo{a:bJ}(b:oi k):(yG a k).length=k.length:=by have:=ajO a.cF a.dj a.aH k (xN b) b.2.2.2;unfold Wn at this;exact beq_iff_eq.1 this
theorem ajP{n:bJ}{d:Nat->aK}{i:Nat}{T:Qat}(u:oi k)(s:k.length=b)(w:ag e i T zm)(r:rq (yG n k) (vL m k) d b b zm)(x:mP (vL m k) d b e){a:Nat}(t:a<b):∃g,e.rangeAt i (a*11) (al (m a) g).toList/\aT e (m a) g:=by
 subst s;obtain⟨f,l,y,h⟩:=V1 (c:=n) (m:=m) u t;have o:=x f l;rw[h]at o;refine⟨d f,λc z j=>?_,o⟩;have q:c<5:=(e8.1 j).1;have p:=r.2 f l c Z;rw[y,gx]at p;rw[w.au,p,<-j,<-eo];unfold ot;rw[h];match c,q with
 |0,_|1,_|2,_|3,_|4,_=>rfl
theorem ajQ{a o:bJ}{f:Nat->aq}{y:Nat}(E:dA e)(p:dD)(l:gM a f g (λj=>j<b) (bt k b) o c m D)(i:oi k)(z:k.length=b)(t:ho a.s)(C:a.s.b8=true\/(a.cF=false/\a.dj=true))(F:a.s.W/16=(g:Int))(q:1<=a.q/\a.q<=31)(n:∀d,d<b->(f d).Ok/\((f d).w:Int)=a.s.W/\((f d).h:Int)=a.s.H)(G:jG e a.s y c w H x)(d:Nat)(B:d<b):(m d).Ok:=by subst z;obtain⟨j,A,_,r⟩:=V1 (c:=a) (m:=m) i B;have h:=(VP (w:=w) (H:=H) E p l i rfl t C q F n λh s u=>G.bE h s u).ok j (Nat.lt_of_lt_of_eq A (Wo (a:=a) i).symm);rw[<-r];exact h
theorem Wp{i:List bi}{d:Int}{g:Ending}{a:List Int}{c:Int}(k:lc h i d=(a,c))(b:pN h i d e g zb):∃f j,g=.returned (.tuple #[.slice f a.length j,X c])/\aF zb f 1 a.length (iI a)/\V [] e zb:=by unfold pN at b;rwa[k]at b
theorem ajR:dr (#[]:Qad) 0 148 0 []:=⟨rfl,a' 0,jo _,rfl⟩
theorem ajS{a:List Int}(b:L<a.length)(d:∀c∈a,0<=c):(iI a)[L]? =some (.int .i64 (iV a L:Int)):=by unfold iI iV;rw[fx,cu b,b9,cu b,lE,kR (d _ (la b))];rfl
theorem Wq(a:gQ):bT prog 32 (iU a).size:=by rw[show(iU a).size=141 by unfold iU;rw[Gz,gr];rfl];exact⟨_,underlying32,rfl,ar⟩
theorem JC(a:r:=by
 go_wp2_with fail
 refine(zA.out _ (G.out.ad b.aa)).mono ?_;rintro e zaj ⟨rfl,zbz⟩;go_wp2_with fail
 exact gJ rfl ⟨rfl,(G.out.ad b.aa).ad zbz⟩):r:=a
theorem Wr(a:r:=by refine(P.mono λe zs m=>Wp E m).mono ?_;rintro e r ⟨ic,zbD,rfl,zj,J⟩;replace b:=b.aS J;clear P E zj J;exact JC):r:=a
theorem ajT(B:N)(a:gQ)(zm:Nat->j6)(zd:aj)(zaa zac aL:Nat->List Nat)(zt:Int)(m:Jw B a zm zd zaa zac aL)(zy:dA B)(zW:dD):Calls prog 3 #[iU a,X zt] B (Wb B):=by
 have zA:=Y λi(n:V [] B i)=>ajJ i (zy.ad n) zW;have zaR:=Y λi(n:V [] B i)=>ajr i a m.i zm zd (m.fg.ad n) (m.VX.ad n);have zao:=Y m;have zaG:=Y zy;have z:=Y zW;clear m zy zW;have b:=ao.nil [] B;go_in;go_wp2_with(first|(refine b.aI _ (iU a) ?_;clear b;intro zcl zci b)|(refine b.ld 0 (Wq _) ?_))
 refine(zaR.out _ b.aa).mono ?_;rintro e I ⟨zbW,rfl,W,u⟩;replace b:=b.aS u;have zz:=Y W;clear u W zaR;cases zbW
 .go_wp2_with fail
  refine(zA.out _ b.aa).mono ?_;rintro e zae ⟨rfl,zp⟩;go_wp2_with fail
  exact gJ rfl ⟨rfl,b.aa.ad zp⟩
 .obtain⟨zbk,zb6,zbL,zbt,zbq,zV,zat⟩:=ajz zao.out (zz.out rfl).1 (zz.out rfl).2;have f:=Y zat;clear zat zz zao;generalize qm zm zaa zac aL=zb3 at f;generalize DC zm=zbT at f;go_wp2_with(refine b.ld 0 (Wq _) ?_)
  refine(ajt _ a zbk zb6 zbL zbt zbq zV f.out.ajv f.out.ajw f.out.l8 f.out.ajx zd zb3 zbT (pe a.n zd) (f.out.e.ad b.aa) f.out.ajy f.out.q1 (zaG.out.ad b.aa) z.out f.out.VZ f.out.hm).mono ?_;rintro e C ⟨zbl,zb4,zbU,h,K,za,O,zv,n,rfl,ze,zaX,zag,zaW,zY,zb2,zbG⟩;have zh:=f.out.e.aQ;have zai:=VS ze f.out.ok f.out.len zh f.out.b8 (by have:=zh.v;unfold et at this;have:=f.out.hm;omega);have zF:=Y ((b.ai 0 rfl).S zY U);have G:=Y (b.aa.ad zY);have D:=Y (zaG.out.ad G.out);have zq:=Y zaX;have A:=Y zai;have t:=Y zh;have zaI:=Y (And.intro zag zaW);have zay:=Y ze;clear b ze zaX zag zaW zY zb2 zbG zh zai;have b:=ao.nil [] C;refine aG h.length λj zO=>?_;have k:=Y zO;rw[zO];clear zO;go_wp2_with fail
  refine(Wi A.out t.out D.out z.out zq.out k.out (λ_=>jo _)).mono ?_;rintro e zae ⟨zau,zb5,zbF,rfl,W,za6,zp,zba⟩;replace b:=b.aP W zp zba;have zaK:=Y za6;have zaM:Hid (j7 (dm (h.map aE.ak) h.length) (s9 h) j (λc=>(ez (dm (h.map aE.ak) h.length) c).a.toNat) (DD h)):=Y (k.out▸ajL h);have zbH:0<s9 h:=A.out.VR;have zcy:s9 h<=j:=by have:=(C' (h.map aE.ak) h.length).1;have:=k.out;unfold s9;omega
  have zbY:j<=64:=by have:=A.out.n;have:=k.out;omega
  have zco:0<j:=by have:=A.out.ja;have:=k.out;omega
  clear W za6 zp zba;generalize zaA:s9 h=q at*;have zbB:=Y zaA;clear zaA;generalize zas:DD h=zn at*;have zb0:=Y zas;clear zas;go_wp2_with(refine r9 (aL:=ay a.s) (cH _) (zF.out.S b.aa U) yH rfl rfl rfl ?_)
  have P:=Z9 zae a.s t.out.i (some ⟨zau,0,none⟩) zb5 (kY zn (dW a.s h λ_=>0) q j) zt (by rw[qn];exact Wg (b.ai 0 rfl) zaK.out);rw[qn]at P;rcases Z' a.s (kY zn (dW a.s h λ_=>0) q j) zt with⟨E,_⟩|⟨_,E,_⟩|⟨zaN,l,E,zb,_⟩
  .exact Wr
  .exact Wr
  .refine(P.mono λe zs m=>Wp E m).mono ?_;have z1:l.1.length=q:=by have:=ul _ zb;rw[qn]at this;exact this
   rw[z1];rintro e r ⟨ic,zbD,rfl,zj,J⟩;replace b:=b.aS J;have zf:=Y (And.intro zaN zb);have zb8:=Y z1;have zbI:=Y zj;clear P E zj J zaN zb z1;obtain⟨zaL,z6,zan,z8,zaT⟩:=k8 vi;go_wp2_with(refine vP _ rfl _ _ 35 rfl 54 zaL (bW 0 b6 false 0 dS none 0 0 0) 148 296 underlying35 z6 zan z8 zaT (kq ..) R _ 0 0 [] rfl (mC (ag.aP _ _ _) ajR) (some ⟨zb4,0,none⟩) j zbU (cq (λd=>cd a.s (bq h d) (K d) (za d) ((0:Nat):Int)) j) rfl (((zq.out.news k.out).ad b.aa).alloc _) (Wh (h:=λ_=>0) j) ib Z Z ?_;intro F zc zaj zE u zS)
   rw[c',cU]at zE;have u:V [r.heap.size] (r.alloc (.cells #[] 54)) zaj:=by simpa[dL,Value.ownBlock]using u
   have zS:F=r.heap.size\/(r.alloc (.cells #[] 54)).heap.size<=F:=by simpa[dL,Value.ownBlock]using zS
   have L:=((V.refl [] r).alloc (.cells #[] 54)).size;obtain⟨zbA,zaV,zax⟩:=uI zE;replace b:=b.aP zaV (((V.refl [] r).alloc _).own u (a' _)) Z;have zaD:=Y (((V.refl [] r).alloc (.cells #[] 54)).own u (a' _));have zbV:=Y (show r.heap.size<=F from Z);clear zE u zS L zaV z6 zan z8 zaT zaL;have zaq:=Y zax;clear zax;go_wp2_with fail
   refine aG (fB zn q j) λo zP=>?_;have zL:=Y zP;have zbx:=Y λc(w:c<q)=>show o c<j from zP▸(zaM.out.iG w).2;clear zP;go_loopw [13] (λy wr=>∃g:Nat,g<=q/\y=X g/\Hid (∀c,c<g->iV l.1 c<=131072)/\∃zl,Hid (dr zl zc 148 j (cq (λd=>cd a.s (bq h d) (K d) (za d) ((hr (iV l.1) o g d:Nat):Int)) j))/\Hid (V [] r wr)/\Hid (ao [] C wr [(F,54,zl),(zau,56,zbF)])) (λy _=>q-(intOf y).toNat)
   .exact⟨0,Z,rfl,Y λ_ m=>absurd m (fT _),zbA,zaq,zaD,Y b⟩
   .obtain⟨g,zcm,rfl,zar,zl,zk,za9,zaP⟩:=hrel;clear b zaq zaD;have b:=zaP.out;clear zaP;by_cases zD:g<q
    .have zbC:(g:Int)<(q:Int):=Z;have z':(iI l.1)[g]? =some (.int .i64 ((iV l.1 g:Nat):Int)):=ajS (by rw[zb8.out];exact zD) (λzV zb=>by obtain⟨v,_,zbR,_,zbS⟩:=uj zf.out.1;exact(Bv (lD.1 v).ok _ _ _ zbS zbR zf.out.2 zV zb).1);obtain⟨zcf,zcw,rfl,zaE⟩:=zbI.out.plain zbH R;have zG:=zaE g _ z';have zaC:=(za9.out.au (f' _ _ zG) U).trans zG;clear zaE zG z';refine aG (iV l.1 g) λQ zI=>?_;have za2:=Y zI;rw[zI]at zaC;clear zI;by_cases ze:131072<Q
     .have zbN:decide (131072<(Q:Int))=true:=aw;exact JC
     .have zbN:decide (131072<(Q:Int))=false:=aw;go_wp2_with fail
      have zah:=(vv (b.ai 1 rfl) zaK.out zD).2.1;have zaf:=zbx.out g zD;have zc:_=some (Value.int .i64 ((o g:Nat):Int)):=zah.trans (by rw[<-zL.out];rfl);clear zah;refine aG (o g) λaR zR=>?_;have zbm:=Y zR;rw[zR]at zc zaf;clear zR;have zck:(aR:Int)<(j:Int):=Z;refine ve 8 9 10 212 ?_;clear b;intro b;refine ax ?_;refine el λzbo zab=>?_;have zcx:=zk.out.lV;have zcr:=zk.out.le;refine eI (X Q) rfl rfl rfl rfl (b.ai 0 rfl) (show aR*148+147<zl.size from Z) rfl rfl ?_;intro x zaJ zH aQ;have zbK:=Y (za9.out.drew.own zH zbV.out);replace b:=b.bk 0 zaJ zH;refine zab _ _ ?_;clear zab zbo zaJ zH aQ zc zaC;try simp only[az]
      refine ax ?_;go_wp2_with fail
      exact⟨⟨g+1,Z,a8,Y λc w=>by
       by_cases e:c=g
       .rw[e,za2.out];omega
       .exact zar.out c Z,_,Y (dr.set (d:=aR) (e:=147) (zD:=λd=>cd a.s (bq h d) (K d) (za d) ((hr (iV l.1) o (g+1) d:Nat):Int)) (v:=X Q) zk.out (λ_=>o0 _ _ _ _ _) zaf R λd zaY=>by
        rw[hr,za2.out,zbm.out];unfold aJ;split
        .rename_i e;rw[e,Sz]
        .rfl),zbK,Y b⟩,bF⟩
    .have zbC:¬((g:Int)<(q:Int)):=Z;obtain rfl:g=q:=Z;go_wp2_with fail
     have zu:∀d,hr (iV l.1) o g d<=1048576:=λd=>b7 (V4 g zar.out) R;have zak:=Y zu;have zZ:jG _ a.s F h K za (hr (iV l.1) o g):=⟨k.out▸dQ.q7 (λ_=>o0 _ _ _ _ _) (aF.nG (mC (b.ai 0 rfl) zk.out)),λd zaY zbM=>(zq.out.bE d zaY zbM).ad b.aa⟩;refine(RI _ a.s F zc j h K za (hr (iV l.1) o g) zZ k.out zbY A.out.ok (λd _=>zu d) (D.out.ad b.aa) z.out).mono ?_;rintro e H (⟨L,v,rfl,zaQ⟩|⟨cc,rfl,p⟩)
     .obtain⟨iE,zbs,rfl,zal,zam,p,_⟩:=zaQ.done;replace b:=b.aS p;have zK:=Y λi(n:V [] H i)(zbE:dA i)=>show Calls prog 10 #[.slice iE (ek a.s h (hr (iV l.1) o g) j).length zbs] i (Wm a.s h (hr (iV l.1) o g) i)from k.out▸ajN A.out zbE z.out zak.out (k.out.symm▸L) (k.out.symm▸zal.ad n) (k.out.symm▸zam);have zbb:=zaM.out.run (a:=a.s) (d:=h) zf.out.1 zf.out.2 (zL.out.symm▸L);rw[zL.out]at zbb;obtain⟨zcs,zaB⟩:=zbb;have zbu:=Y zaB;clear p L zaQ zal zam zZ zu zaB;refine aG ((ek a.s h (hr (iV l.1) o g) j).length) λzcg za3=>?_;rw[za3]at zK⊢;clear za3;go_wp2_with fail
      refine(zK.out _ (V.refl _ _) (D.out.ad b.aa)).mono ?_;rintro e zcd ⟨aA,zap,zct,zcq,rfl,zaz,zaO⟩;replace b:=b.aS zaO;have za8:=Y zaz;rw[k.out];clear zaO zaz zK;go_wp2_with fail
      have zJ:=Wi (P:=zap) A.out t.out (D.out.ad b.aa) z.out za8.out k.out zak.out;rw[zbB.out,zb0.out]at zJ;refine zJ.mono ?_;rintro e zbO ⟨zbv,zbQ,zcp,rfl,za1,zad,zX,za4⟩;have zbZ:=Y zX;replace b:=b.aP za1 zX za4;have zby:=Y zad;clear zJ za1 zad zX za4;go_wp2_with(refine r9 (aL:=ay a.s) (cH _) (zF.out.S b.aa U) yH rfl rfl rfl ?_)
      have zM:=aag zbO a.s t.out.i (some ⟨zbv,0,none⟩) zbQ (kY zn (dW a.s h (hr (iV l.1) o g)) g j) zt (by rw[qn];exact Wg (b.ai 0 rfl) zby.out);rw[qn]at zM;refine(zM.mono λe zs m=>n0.FI zbu.out m).mono ?_;rintro e zce ⟨zcu,zca,rfl,_,zQ⟩;replace b:=b.aS zQ;have zbr:=Y ((za8.out.ad zbZ.out).ad zQ);clear zM zQ;have zbJ:∀i,V [] C i->Calls prog 13 #[ay a.s] i λe zs=>e=.returned (X (pM a.s))/\V [] i zs:=λi _=>M8 i a.s t.out.i;have zN:=VT (W:=aA) (zA:=zap) (D.out.ad b.aa) z.out zay.out f.out.ok f.out.len t.out f.out.b8 f.out.hm f.out.q1 f.out.ry zbr.out;rw[k.out]at zN;go_wp2_with fail
      refine zN.mono ?_;rintro e zw ⟨zcn,zcj,zch,zav,bV,zx,zU,zaw,_⟩;rw[Wo f.out.ok,f.out.len]at zav zx zU;subst zav;replace b:=b.aS zaw;have zb1:=Y λc(w:c<a.n)=>ajP f.out.ok f.out.len bV zx zU w;have zb7:=Y (ajQ D.out z.out zay.out f.out.ok f.out.len t.out f.out.b8 f.out.hm f.out.q1 f.out.ry zq.out);have zaZ:=Y λi(n:V [] C i) c(w:c<a.n)=>show i.rangeAt zbl (c*5) (al (O c) (zv c)).toList/\aT i (O c) (zv c)from⟨(zaI.out.1.S n U).r8 (yB w),(zaI.out.2 c w).ad n⟩;clear zN bV zx zU zaw zbJ;go_wp2_with fail
      have zaH:=zF.out.S b.bd.aa U;have zB:=zaH.r8 (x:=0) (aL:=ay a.s) yH;replace b:=b.bd;refine rg [] [0,1,2,3,4,5,6,7,8,9,10,11,12,13,14,15,16,17,18,19,21,22,120,123,24,25] ?_;refine J5 ?_;refine iR (aL:=ay a.s) zB (cH _) ?_;refine lv ?_;refine iR (aL:=ay a.s) zB (cH _) ?_;simp only[az];clear zB zaH;refine bN (M8 _ a.s t.out.i) ?_;refine A5 λzcz zC=>?_;replace b:=b.aS zC;refine bN (ZT _ a.s t.out.i) ?_;refine uB ?_;clear b;intro zb9 z7 b;have zbP:=Y ((V.refl [] zw).drew.ad (zC.ad z7));clear zC z7;refine ax ?_;go_wp2_with fail
      go_loopw [24] (λy wr=>∃c:Nat,c<=a.n/\y=X c/\Hid (V [] zw wr)/\Hid (V [] C wr)) (λy _=>a.n-(intOf y).toNat)
      .exact⟨0,Z,rfl,zbP,Y b.aa⟩
      .obtain⟨c,w,rfl,za0,zi⟩:=hrel;clear b;have zcb:=f.out.VZ;by_cases zo:c<a.n
       .have zbp:(c:Int)<(a.n:Int):=Z;obtain⟨zaS,zr,zaF⟩:=zb1.out c zo;obtain⟨zaU,zbn⟩:=zaZ.out _ zi.out c zo;have zbw:=Y λi(n:V [] zw i)(u:V [] C i)=>RN i (O c) zaS (zv c) (zaF.ad n) (zaZ.out i u c zo).2 (zb7.out c zo);replace zr:=iM zr za0.out;clear zaF zbn;go_wp2_with fail
        have za5:=za0.out.drew;have za7:=zi.out.drew;refine rg [] [0,1,2,3,4,5,6,7,8,109,10] ?_;refine pk ?_;refine iR (aL:=al (O c) zaS) zr aB ?_;refine iX ?_;refine iR (aL:=al (O c) (zv c)) zaU aB ?_;simp only[az];clear zr zaU;refine bN (zbw.out _ za5 za7) ?_;rintro e zcv ⟨rfl,zT⟩;refine⟨_,rfl,zT,?_⟩;refine ax ?_;go_wp2_with fail
        exact⟨⟨c+1,Z,a8,Y (za5.ad zT),Y (za7.ad zT)⟩,bF⟩
       .have zbp:¬((c:Int)<(a.n:Int)):=Z;go_wp2_with fail
        refine(zA.out _ (G.out.ad zi.out)).mono ?_;rintro e zcc ⟨rfl,zbX⟩;go_wp2_with fail
        exact gJ rfl ⟨rfl,(G.out.ad zi.out).ad zbX⟩
     .replace b:=b.aS p;clear p cc zZ zu;exact JC
section
open Go.ChangeAt Go.ChangeShapes Go.Deep Go.WideShapes
section
variable {zf:Type}{zk:TypeId×Value->zf}{O:Qav}
theorem Ws{l:Qat}{d:Qaw}{j:Qam}{r:DataW zf×List MemPlace}(A:O.underlying l=some (.slice E))(s:O.underlying E=some (.int d))(m:O.cellsOf E=1) (y:DataW.trod zk O u 0 (λ_=>true) true zq l j=some r):∃k len bH b,j=[.slice k len bH]/\List.length b=len/\len<=bH/\bH<=maxLen/\aF u k 1 len (b.map (Value.int d))/\∀e∈b,(Lit.int d e).wf=true:=by
 rcases open_ints A s m y with⟨g,_⟩|⟨h,c,z,b,g,_,q,x,w,_,p,o⟩
 .exact⟨none,0,0,[],g,rfl,a' _,jo _,aF.none_,U⟩
 .simp only[eB]at w;refine⟨some h,c,z,b.take c,g,aw,q,x,⟨aw,λ_=>⟨h,rfl,λf B a=>?_⟩⟩,λe t=>o e (tc t)⟩;have n:f<c:=by
   rcases jn f c with i|i
   .exact i
   .rw[fN aw]at a;cases a
  rw[p f Z];simp only[fx,tH n]at a;rw[cu Z]at a;simp only[hU,iA]at a;rw[<-a,b9,cu Z];rfl
theorem JD{i:Qat}{f:DataW zf×List MemPlace}(p:O.underlying i=some (.slice E))(n:O.underlying E=some (.int .u8))(k:O.cellsOf E=1) (o:DataW.trod zk O u 0 (λ_=>true) true zq i [v]=some f):∃d len bH g,v=.slice d len bH/\List.length g=len/\len<=bH/\aF u d 1 len (aC g)/\∀f∈g,f<256:=by
 obtain⟨d,len,bH,e,b,z,l,r,q,m⟩:=Ws p n k o;obtain rfl:v=.slice d len bH:=xl;have j:∀a∈e,0<=a/\a<=255:=λa c=>by simpa[Lit.wf,IntKind.min,IntKind.max,IntKind.signed,IntKind.bits]using m a c
 refine⟨d,len,bH,e.map Int.toNat,rfl,yp,l,?_,?_⟩
 .have E:aC (e.map Int.toNat)=e.map (Value.int .u8):=by unfold aC;rw[AE];apply oC;intro a c;simp only[Function.comp];rw[kR (j a c).1]
  rw[E];exact q
 .intro f h;simp only[ca]at h;obtain⟨a,c,rfl⟩:=h;have:=j a c;omega
end
section
variable {zf:Type}{zk:TypeId×Value->zf}
theorem Wt:prog.cellsOf 71=5:=ar
theorem ajU{f:Qam}{I:DataW zf×List MemPlace}(q:DataW.trod zk prog u 0 (λ_=>true) true zq 71 f=some I):∃(m:j6)(C E v:af),f=(kS m).toList/\s8 u m C E v:=by
 obtain⟨zl,zv,_,rfl,k,zs,b⟩:=DataW.trod_struct underlying71 q;rw[Wt]at k;have a:∀c,c<5->∃P,zl[c]? =some P:=λc L=>⟨_,cu (by rw[zs];exact L)⟩;match f,k with
 |[zi,H,zy,zx,g'],_=>
  have d:=b 0 _ rfl;have i:=b 1 _ rfl;have e:=b 2 _ rfl;have g:=b 3 _ rfl;have h:=b 4 _ rfl;obtain⟨zA,z⟩:=a 0 R;obtain⟨zw,zo⟩:=a 1 R;obtain⟨zz,x⟩:=a 2 R;obtain⟨zu,n⟩:=a 3 R;obtain⟨zB,B⟩:=a 4 R;rw[z]at d;rw[zo]at i;rw[x]at e;rw[n]at g;rw[B]at h;have zp:prog.cellsOf 3=1:=ar;have W:prog.cellsOf 57=1:=ar;simp only[List.getElem_toArray,List.getElem_cons_zero,List.getElem_cons_succ,zp,W,uk,HD,List.take_succ_cons,List.take_zero]at d i e g h;obtain⟨j,F,_⟩:=DataW.trod_int underlying3 d;obtain⟨l,D,_⟩:=DataW.trod_int underlying3 i;obtain⟨r,Q,zm,J,rfl,ze,zn,za,A⟩:=JD underlying57 underlying5 ar e;obtain⟨zj,zt,O,K,rfl,zr,o,s,zb⟩:=JD underlying57 underlying5 ar g;obtain⟨p,t,y,w,rfl,G,zc,zd,zh⟩:=JD underlying57 underlying5 ar h;obtain rfl:zi=X j:=by simpa using F
  obtain rfl:H=X l:=w3;exact⟨⟨j,l,r,Q,zm,zj,zt,O,p,t,y⟩,J,K,w,rfl,⟨za,s,zd,ze,zr,G,A,zb,zh,zn,o,zc⟩⟩
def vN:List TypeId:=oL++[27,28,4,4,4,3]
theorem ajV:prog.cellTypes prog.depth 32=some vN:=ar
theorem ajW:prog.cellsOf 32=141:=ar
theorem Wu{a:Qav}{f:Reach}{j:Nat}{d:Qat}(b:a.underlying d=some (.slice E))(c:Cell.okWide a e f j d v):∃i h g,v=.slice i h g:=by exact EE
theorem ajX{D:Reach}{G:Nat}{zD:DataW zf}{zK:List MemPlace}(zj:Value.okWide prog u D G 32 v)(ak:DataW.Trod zk prog u 0 (λ_=>true) true 32 v zD zK):∃(f:gQ)(zG:Nat->j6)(zq:aj)(zt zu aL:Nat->List Nat),v=.agg (iU f)/\Jw u f zG zq zt zu aL:=by
 simp only[Value.okWide,underlying32]at zj;obtain⟨k,rfl,z1,zak,zb,_,zI⟩:=zj;rw[ajV]at zb;obtain rfl:=mc zb;rw[ajW]at z1;have zQ:vN.length=141:=by simp[vN,oL]
 have C:oL.length=135:=by simp[oL]
 have at_:∀a,a<141->∃f c,k[a]? =some f/\vN[a]? =some c/\Cell.okWide prog u D G c f:=by intro a g;have i:k[a]? =some k[a]:=wL Z;obtain⟨c,o,zB⟩:=zI a _ i;rw[zQ,r0 g]at o;exact⟨_,c,i,o,zB⟩
 obtain⟨E,zJ,za,K,zm⟩:=Yw λa g=>by obtain⟨f,c,i,j,n⟩:=at_ a Z;unfold vN at j;rw[eE (by rw[C];exact g)]at j;exact⟨f,c,i,j,n⟩
 have m:∀b c,([27,28,4,4,4,3]:List TypeId)[b]? =some c->∃f,k[135+b]? =some f/\Cell.okWide prog u D G c f:=λb c r=>by
  have zag:b<6:=(e8.1 r).1;obtain⟨f,zar,i,j,n⟩:=at_ (135+b) Z;unfold vN at j;rw[db (by rw[C];omega),C,ki,r]at j;cases j
  exact⟨f,i,n⟩
 obtain⟨zac,zp,zC⟩:=m 0 _ rfl;obtain⟨zaf,i,zF⟩:=m 1 _ rfl;obtain⟨zao,j,zr⟩:=m 2 _ rfl;obtain⟨zal,n,zv⟩:=m 3 _ rfl;obtain⟨zae,zV,zL⟩:=m 4 _ rfl;obtain⟨zap,zW,zX⟩:=m 5 _ rfl;obtain⟨zy,h,O,rfl⟩:=Wu underlying27 zC;obtain⟨T,y,bw,rfl⟩:=Wu underlying28 zF;obtain⟨B,rfl⟩:=Aw underlying4 zr;obtain⟨A,rfl⟩:=Aw underlying4 zv;obtain⟨F,rfl⟩:=Aw underlying4 zL;obtain⟨I,rfl,_⟩:=ED underlying3 zX;obtain⟨z7,z6⟩:=ak;obtain⟨zw,zam,_,_,_,zA,P⟩:=DataW.trod_struct underlying32 z6;have Q:∀a,a<5->∃zY,zw[a]? =some zY:=λa g=>⟨_,cu (by rw[zA];exact g)⟩;have x:=P 1 _ rfl;have w:=P 2 _ rfl;obtain⟨zab,zM⟩:=Q 1 R;obtain⟨zan,zN⟩:=Q 2 R;rw[zM]at x;rw[zN]at w;have zz:prog.cellsOf 27=1:=ar;have zZ:prog.cellsOf 28=1:=ar;have zh:∀b c,k[b]? =some c->(k.toList.drop b).take 1=[c]:=λb c r=>by have z:=(ht.1 r).1;rw[tN yp];rw[<-(ht.1 r).2];rfl
 simp only[List.getElem_toArray,List.getElem_cons_zero,List.getElem_cons_succ,zz,zZ,Value.cells]at x w;rw[zh _ _ zp]at x;rw[zh _ _ i]at w;obtain⟨z8,zah,zad,l,zn,zP,_,_,L,_⟩:=Ws underlying28 underlying3 ar w;simp only[wC,JE,uc]at zn;obtain⟨rfl,rfl,rfl⟩:=zn;have ze:((List.range y).map λa=>Value.int .i64 (l.getD a 0))=l.map (Value.int .i64):=by
  subst zP;apply oM;intro a;rw[fx,fx];by_cases g:a<l.length
  .rw[qN g,cu g];show some (Value.int .i64 (l.getD a 0))=some (Value.int .i64 l[a]);rw[b9,cu g];rfl
  .rw[fN (by rw[nP];omega),fN Z];rfl
 have zi:k=iU ⟨E,zy,h,O,T,y,bw,B,A,F,I⟩:=by
  apply kc;intro a;by_cases W:a<135
  .rw[zJ a W];unfold iU;rw[Array.getElem?_append_left (by rw[gr];exact W)]
  .obtain⟨b,rfl⟩:∃b,a=135+b:=⟨a-135,Z⟩;rw[Jv];by_cases zaq:b<6
   .have:b=0\/b=1\/b=2\/b=3\/b=4\/b=5:=Z;rcases this with rfl|rfl|rfl|rfl|rfl|rfl
    .exact zp
    .exact i
    .exact j
    .exact n
    .exact zV
    .exact zW
   .rw[hP Z,hP (by show 6<=b;omega)]
 rcases open_slice underlying27 x with⟨p,_⟩|⟨s,len,bH,zaa,zai,z',c6,p,_,z,_,zs,_,g⟩
 .simp only[wC,JE,uc]at p;obtain⟨rfl,rfl,rfl⟩:=p;exact⟨⟨E,none,0,0,T,y,bw,B,A,F,I⟩,λ_=>⟨0,0,none,0,0,none,0,0,none,0,0⟩,λa=>l.getD a 0,λ_=>[],λ_=>[],λ_=>[],aX Value.agg zi,za,K,zm,aF.none_,ze▸L,λa H=>absurd H (fT _)⟩
 .simp only[wC,JE,uc]at p;obtain⟨rfl,rfl,rfl⟩:=p;simp only[eB]at zs;obtain⟨d,zaj,zU⟩:=L4 (α:=j6×List Nat×List Nat×List Nat) (i:=λa q=>u.cells? 0 (s.add (a*5)) 5=some (kS q.1).toList/\s8 u q.1 q.2.1 q.2.2.1 q.2.2.2) h (λa zH=>by obtain⟨zas,zc,zS⟩:=g a Z;rw[Wt]at zc;obtain⟨zO,zE,c,v,rfl,zx⟩:=ajU zS;exact⟨(zO,zE,c,v),zc,zx⟩);let e:j6×List Nat×List Nat×List Nat:=(⟨0,0,none,0,0,none,0,0,none,0,0⟩,[],[],[]);have zd:∀a,a<h->u.cells? 0 (s.add (a*5)) 5=some (kS (d.getD a e).1).toList/\s8 u (d.getD a e).1 (d.getD a e).2.1 (d.getD a e).2.2.1 (d.getD a e).2.2.2:=λa zH=>by
   have t:d[a]? =some (d.getD a e):=by rw[b9,cu Z];rfl
   exact zU a _ t
  refine⟨⟨E,some s,h,O,T,y,bw,B,A,F,I⟩,λa=>(d.getD a e).1,λa=>l.getD a 0,λa=>(d.getD a e).2.1,λa=>(d.getD a e).2.2.1,λa=>(d.getD a e).2.2.2,aX Value.agg zi,za,K,zm,⟨ns (c:=λa=>kS (d.getD a e).1) (b:=5) (λ_=>rfl) h,λ_=>⟨s,rfl,λb c o=>?_⟩⟩,ze▸L,λa H=>(zd a H).2⟩;have zR:=(e8.1 o).1;rw[show(cq (λa=>kS (d.getD a e).1) h).length=h*5 from ns (b:=5) (λ_=>rfl) h]at zR;have zl:b/5<h:=Z;have t:b/5*5+b%5=b:=Z;have zo:b%5<5:=nc _ R;obtain⟨_,_,zT⟩:=World.cells?_some (zd (b/5) zl).1;have J:=zT (b%5) zo;rw[Go.Deep.add_add,t]at J;rw[J,<-o,eo,<-oe (f:=λa=>kS (d.getD a e).1) (d:=5) (λ_=>rfl) h _ _ zl zo,t]
end
end
