import Derived.Test.YtdmdbgabjcbjiaaGreatDoorA01
import Derived.Test.YtdmdbgabjcbjiaaGreatDoorA02
set_option maxHeartbeats 0
set_option maxRecDepth 100000
set_option linter.all false
namespace Go.Proofs.YtdmdbgabjcbjiaaGreatDoor
open Go.RowKit fD cr hs a7 _root_.Go.Proofs.Tryz
variable{E zn:Prop}{O c n W zt zo:N}{zh:Qam}{A e zq zr:Qat}{zd:Func}{K:Tmp}{k:Qav}{m:Qak}{u:Qab}{f s x t zb J d L ze zc r p q z j za zi:Nat}{H:Qai}{I:Qaj}{g:Act}{i zj zl:Qad}{w C:Qau}{zm:Qae}{y zu l:af}{D:Qal}{zp:Region.Mode}{b:bX}{v:Qas}(a:N)
theorem kB:kz 5 (.int .u8 0) 1 1:=k7
def aC(a:af):Qam:=a.map λ(b:Nat)=>.int .u8 (b:Int)
def c0(e:N)(d:Nat)(f:af)(a:Qah):Prop:=∃c b,ag e d 249 #[.slice c ((a.length+7)/8) b,X (a.length:Int)]/\e.ownsRow 0 5 1 (.slice c ((a.length+7)/8) b) ((a.length+7)/8) (aC (pack a))/\f=d::dL (.slice c ((a.length+7)/8) b)
theorem L5(a:N):Calls prog 86 #[] a λc b=>c=.returned (.pointer (some ⟨a.heap.size,0,none⟩))/\c0 b a.heap.size [a.heap.size] []/\V [] a b:=by go_in;go_wp2;go_ret;refine⟨rfl,⟨none,0,ag.aP _ _ _,?_,rfl⟩,(V.refl _ _).alloc _⟩;exact EW _ _ _ _
theorem AP(a:E:=by go_in;go_wp2;go_ret;exact⟨rfl,rfl⟩):E:=a
theorem YY(a:N)(b:Nat)(h:af)(d:Qah)(g:c0 a b h d):Calls prog 253 #[ab b] a λi k=>i=.returned (X (d.length:Int))/\a=k:=by obtain⟨m,l,c,j,f⟩:=g;have e:=c.au 1;simp only[b4,dt,dY]at e;clear c j f;exact AP
theorem YZ(v a:Nat)(e:v<4294967296):(bits BinOp.and IntKind.u32 ((v:Int)/2^a) 1%256)=((v.testBit a).toNat:Int):=by
 have c:((v:Int)/2^a)=((v/2^a:Nat):Int):=U;have g:v/2^a<=v:=Nat.div_le_self _ _;rw[c,show(1:Int)=((1:Nat):Int)from rfl,u32_and_nat _ _ Z Z,Nat.and_one_is_mod];have d:v.testBit a=decide (v/2^a%2=1):=AF;have f:v/2^a%2<2:=nc _ Z;rw[d];by_cases b:v/2^a%2=1
 .rw[b];simp
 .have:v/2^a%2=0:=Z;rw[this];simp
theorem L6(a:Qah)(b:Bool):bits BinOp.or IntKind.u8 (ff a (a.length/8):Int) ((b.toNat:Int)*2^(7-a.length%8)%256)=(ff (a++[b]) (a.length/8):Int):=by
 have g:b.toNat<2:=by cases b<;>decide
 have f:b.toNat*2^(7-a.length%8)<256:=by have c:2^(7-a.length%8)<=2^7:=pz Z Z;have:b.toNat*2^(7-a.length%8)<=1*2^7:=eL Z c;omega
 have e:((b.toNat:Int)*2^(7-a.length%8)%256)=((b.toNat*2^(7-a.length%8):Nat):Int):=by have d:((b.toNat:Int)*2^(7-a.length%8))=((b.toNat*2^(7-a.length%8):Nat):Int):=U;rw[d];omega
 rw[e,u8_or_nat _ _ (EG _ _) f,YE,Nat.shiftLeft_eq]
theorem L7{c b e bH:Nat}{a:Qah}{f:Bool}{d:Int}(m:e=a.length/8+1) (h:ag O c 249 #[.slice (ab b) e bH,X (a.length:Int)]) (k:O.ownsRow 0 5 1 (.slice (ab b) e bH) e zh) (l:zh=aC ((List.range (a.length/8+1)).map (ff a))) (r:d=(ff (a++[f]) (a.length/8):Int)):c0 ((O.setCell ⟨b,a.length/8,none⟩ (.int .u8 d)).setCell ⟨c,1,none⟩ (X ((a.length:Int)+1))).drew c [c,b] (a++[f])/\V [c,b] O ((O.setCell ⟨b,a.length/8,none⟩ (.int .u8 d)).setCell ⟨c,1,none⟩ (X ((a.length:Int)+1))).drew:=by
 have j:b≠c:=by have:=yL k h R;simpa[Value.ownBlock]using this
 have g:((a++[f]).length+7)/8=e:=by rw[m];simp;omega
 have n:=(k.stored (a.length/8) (.int .u8 d)).1;have q:ag (O.setCell ⟨b,a.length/8,none⟩ (.int .u8 d)) c _ _:=h.oA (b:=⟨b,a.length/8,none⟩) (hv j) _;have s:=q.ma 1 (X ((a.length:Int)+1));have p:=qq n (((V.refl [c] _).setCell (d:=⟨c,1,none⟩) (.inl U) (X ((a.length:Int)+1)))) (by simp[dL,Value.ownBlock,j]);refine⟨⟨some ⟨b,0,none⟩,bH,?_,?_,?_⟩,?_⟩
 .rw[g];have i:=s.drew;simp only[cb,cQ,cK]at i;simpa using i
 .rw[g];have o:aC (pack (a++[f]))=zh.set (a.length/8) (.int .u8 d):=by rw[LJ,l,r];simp[aC,List.map_set]
  rw[o];exact p
 .simp[dL,Value.ownBlock]
 .exact(((V.refl _ _).setCell (d:=⟨b,a.length/8,none⟩) (.inl U) _).setCell (d:=⟨c,1,none⟩) (.inl U) _).drew
theorem L8(a:zn)(b:zn->E:=by
 intro zw;have f:bits BinOp.or IntKind.u8 (ff a (a.length/8):Int) (o*2^(7-a.length%8)%256)=(ff (a++[v.testBit (b-1-d)]) (a.length/8):Int):=by rw[zn.out,YZ v _ zs];exact L6 a _
 revert f;exact zw):E:=b a
theorem pA(n:N)(c:Nat)(m:af)(j:Qah)(v b:Nat)(w:c0 n c m j)(zD:b<=32)(G:v<2^b)(zM:j.length<=1099511627776):Calls prog 87 #[ab c,.int .u32 (v:Int),X b] n λs zj=>s=.returned (X 0)/\∃z,c0 zj c z (j++bitsOf v b)/\V m n zj/\b3 n m z:=by
 have zC:(((v:Int)/2^b) !=0)=false:=by have:((v:Int)/2^b)=((v/2^b:Nat):Int):=U;rw[this,rZ G];rfl
 have A:decide ((b:Int)<0)=false:=U;have zy:decide ((32:Int)<(b:Int))=false:=aw;obtain⟨zE,zo,zv,zp,zG⟩:=k8 kB;have zs:v<4294967296:=gD G (pz Z zD:2^b<=2^32);have zF:=Y w;have zQ:=Y G;clear w G;go_in;go_wp2;clear zC A zy;go_loopw [24] (λI wr=>∃d:Nat,d<=b/\I=X d/\∃z,c0 wr c z (j++(bitsOf v b).take d)/\V m n wr/\b3 n m z) (λI _=>b-(intOf I).toNat)
 .exact⟨0,jo _,rfl,m,by simpa using zF.out,V.refl _ _,b3.refl _ _⟩
 .obtain⟨d,zR,rfl,u,H,t,y⟩:=hrel;by_cases zf:d<b
  .obtain⟨a,D⟩:∃a,a=j++(bitsOf v b).take d:=⟨_,rfl⟩;rw[<-D]at H;obtain⟨za,zc,g,h,q⟩:=H;have zi:a.length=j.length+d:=by rw[D];simp[bitsOf];omega
   have zh:=g.au 0;have zm:=g.au 1;have zA:=g.eA 0;have zr:=g.eA 1;simp only[b4,dt,dY]at zh zm;have Q:=Y D;have zO:=Y zi;have zL:a.length<=1099511627776+32:=Z;clear D zi;by_cases B:a.length%8=0
   .have zt:(((a.length:Int)%8)==0)=true:=aw;have l:=Y B;clear B;go_wp2_with(at_builtin;refine vP _ rfl _ _ 57 rfl 5 zE (.int .u8 0) 1 1 underlying57 zo zv zp zG rfl R _ _ _ _ rfl (h.alloc _) _ 1 1 [.int .u8 0] rfl (aF.one _ _ _) ?zc2 ?zc3 ?zc4 ?zc5 ?_)
    case zc2=>intro zJ ze;simp at ze;subst ze;rfl
    case zc3=>unfold maxLen;omega
    case zc4=>omega
    case zc5=>omega
    intro e bH E J K zk;have k:ag E c 249 #[.slice za ((a.length+7)/8) zc,X (a.length:Int)]:=(g.alloc _).S K (by have:=yL h g R;simpa[dL]using this);have zl:=k.au 0;have A:=k.au 1;have zH:=k.eA 0;simp only[b4,dt,dY]at zl A;clear zh zm zA zr;go_wp2_with fail
    obtain⟨o,i⟩:∃o:Int,o=(bits BinOp.and IntKind.u32 ((v:Int)/2^(b-1-d)) 1%256):=⟨_,rfl⟩;rw[<-i];have p:=k.ma 0 (.slice (ab e) ((a.length+7)/8+1) bH);have zb:e≠c:=by have:=yL J k R;simpa[Value.ownBlock]using this
    have F:(E.setCell ⟨c,0,none⟩ (.slice (ab e) ((a.length+7)/8+1) bH)).ownsRow 0 5 1 (.slice (ab e) ((a.length+7)/8+1) bH) ((a.length+7)/8+1) (aC (pack a)++[.int .u8 0]):=qq J ((V.refl [c] _).setCell (d:=⟨c,0,none⟩) (.inl U) _) (by simp[dL,Value.ownBlock,zb]);have W:V u wr (E.setCell ⟨c,0,none⟩ (.slice (ab e) ((a.length+7)/8+1) bH)):=((((V.refl u wr).alloc _).trans K (λzd f=>.inl (by rw[q];exact hQ _ f))).setCell (d:=⟨c,0,none⟩) (.inl (by rw[q];simp)) _);have C:b3 wr u [c,e]:=by
     intro zd f;simp at f;rcases f with rfl|rfl
     .left;rw[q];simp
     .rcases zk with w|w
      .left;rw[q];exact hQ _ w
      .right;omega
    have P:=Y W;clear W K zk J k;generalize E.setCell ⟨c,0,none⟩ (.slice (ab e) ((a.length+7)/8+1) bH)=zP at p F P⊢;simp at p;have zB:=p.au 0;have zz:=p.au 1;have zS:=p.eA 1;simp at zB zz;have O:=F.cellAt (a.length/8) Z;have zx:=F.frozenAt (a.length/8);have x:(aC (pack a)++[.int .u8 0])[a.length/8]? =some (.int .u8 (ff a (a.length/8):Int)):=by have:=EH a l.out;have s:aC (pack a)++[.int .u8 0]=aC (pack a++[0]):=mo;rw[s,this];simp[aC]
    rw[x]at O;have zu:(a.length:Int)/8<(((a.length+7)/8+1:Nat):Int):=Z;have zI:(0:Int)<=(a.length:Int)/8:=Z;clear zl A zH x;have zn:=Y i;clear i;go_region;all_goals go_wp2_with fail
    go_roundw
    .refine L8 λf=>?_;have r:=L7 AQ p F (by have:=EH a l.out;rw[<-this];simp[aC]) f;have zq:=P.out.trans r.2 C;refine⟨d+1,Z,a8,[c,e],?_,t.trans zq y,y.trans t.size C⟩;rw[LF v b d zf,<-b5,<-Q.out];exact r.1
    .simp[intOf];omega
   .obtain⟨e,bH,L,zK⟩:=DJ h Z;obtain rfl:za=some ⟨e,0,none⟩:=by injection L
    obtain rfl:zc=bH:=by injection L
    clear L;have zb:e≠c:=by have:=yL h g R;simpa[Value.ownBlock]using this
    have zt:(((a.length:Int)%8)==0)=false:=aw;have l:=Y B;clear B;have O:=h.cellAt (a.length/8) AQ;have zx:=h.frozenAt (a.length/8);have x:(aC (pack a))[a.length/8]? =some (.int .u8 (ff a (a.length/8):Int)):=by rw[EI a l.out];simp[aC]
    rw[x]at O;have zu:(a.length:Int)/8<(((a.length+7)/8:Nat):Int):=AQ;have zI:(0:Int)<=(a.length:Int)/8:=Z;clear x;go_wp2_with fail
    obtain⟨o,i⟩:∃o:Int,o=(bits BinOp.and IntKind.u32 ((v:Int)/2^(b-1-d)) 1%256):=⟨_,rfl⟩;rw[<-i];have zn:=Y i;clear i;go_region;all_goals go_wp2_with fail
    go_roundw
    .refine L8 λf=>?_;have r:=L7 AQ g h (by rw[EI a l.out]) f;have C:b3 wr u [c,e]:=by intro zd f;left;rw[q];simpa[dL,Value.ownBlock]using f
     refine⟨d+1,Z,a8,[c,e],?_,t.trans (r.2.mono (by rw[q];simp[dL,Value.ownBlock])) y,y.trans t.size C⟩;rw[LF v b d zf,<-b5,<-Q.out];exact r.1
    .simp[intOf];omega
  .go_wp2;go_ret;have zN:d=b:=Z;have s:(bitsOf v b).take d=bitsOf v b:=ml (by simp[bitsOf];omega);rw[s]at H;exact⟨rfl,u,H,t,y⟩
def tQ(v a:Int):Int:=if a<0\/32<a then 1 else if v.toNat<2^a.toNat then 0 else 2
def AR(b:Qah)(v a:Int):Qah:=if tQ v a=0 then b++bitsOf v.toNat a.toNat else b
theorem Y0(b:N)(c:Nat)(v a:Int)(e:a<0\/32<a):Calls prog 87 #[ab c,.int .u32 v,X a] b λf g=>f=.returned (X 1)/\b=g:=by
 rcases e with e|e
 .have d:decide (a<0)=true:=kf;exact AP
 .have d:decide (a<0)=false:=aw;have h:decide (32<a)=true:=kf;exact AP
theorem Y1(b:N)(c:Nat)(v a:Nat)(h:a<=32)(e:¬v<2^a):Calls prog 87 #[ab c,.int .u32 (v:Int),X a] b λd f=>d=.returned (X 2)/\b=f:=by
 have k:(((v:Int)/2^a) !=0)=true:=by have:((v:Int)/2^a)=((v/2^a:Nat):Int):=U;have j:0<v/2^a:=Nat.div_pos Z (wD a);rw[this,qA];omega
 have i:decide ((a:Int)<0)=false:=U;have g:decide ((32:Int)<(a:Int))=false:=aw;clear e;exact AP
theorem L9(a:E:=by rintro l i ⟨rfl,rfl⟩;exact⟨rfl,d,kf,V.refl _ _,b3.refl _ _⟩):E:=a
theorem Y2(b:N)(c:Nat)(d:af)(j:Qah)(v a:Int)(e:c0 b c d j)(r:0<=v)(o:j.length<=1099511627776):Calls prog 87 #[ab c,.int .u32 v,X a] b λl i=>l=.returned (X (tQ v a))/\∃k,c0 i c k (AR j v a)/\V d b i/\b3 b d k:=by
 unfold AR tQ;by_cases m:a<0\/32<a
 .rw[ae m];refine(Y0 b c v a m).mono ?_;exact L9
 .rw[M m];obtain⟨g,rfl⟩:∃g:Nat,a=g:=⟨a.toNat,Z⟩;obtain⟨f,rfl⟩:∃f:Nat,v=f:=⟨v.toNat,Z⟩;simp only[gx];by_cases h:f<2^g
  .rw[ae h];refine(pA b c d j f g e Z h o).mono ?_;rintro l i ⟨rfl,k,p,q,n⟩;exact⟨rfl,k,by simpa using p,q,n⟩
  .rw[M h];refine(Y1 b c f g Z h).mono ?_;exact L9
structure aq where
 w:Nat
 h:Nat
 y:af
 u:af
 v:af
structure aK where
 a:Qae
 b:Qae
 c:Qae
 cJ:Nat
 cT:Nat
 cm:Nat
def al(b:aq)(a:aK):Qad:=#[X (b.w:Int),X (b.h:Int),.slice a.a b.y.length a.cJ,.slice a.b b.u.length a.cT,.slice a.c b.v.length a.cm]
structure aT(c:N)(a:aq)(b:aK):Prop where
 y:aF c b.a 1 a.y.length (aC a.y)
 u:aF c b.b 1 a.u.length (aC a.u)
 v:aF c b.c 1 a.v.length (aC a.v)
 lG:a.y.length<=b.cJ
 kj:a.u.length<=b.cT
 fO:a.v.length<=b.cm
theorem aT.ad{e:aq}{d:aK}(a:aT c e d)(b:V [] c n):aT n e d:=⟨a.y.ad b,a.u.ad b,a.v.ad b,a.lG,a.kj,a.fO⟩
structure aq.Ok(a:aq):Prop where
 gG:2<=a.w
 fH:a.w<=64
 kC:a.w%2=0
 iY:2<=a.h
 fr:a.h<=64
 he:a.h%2=0
 d':a.y.length=a.w*a.h
 eM:a.u.length=a.w/2*(a.h/2)
 aR:a.v.length=a.w/2*(a.h/2)
 gy:∀b∈a.y,b<256
 fP:∀b∈a.u,b<256
 hV:∀b∈a.v,b<256
theorem L'(a b:Nat)(c:N)(q:2<=a)(p:a<=64)(k:a%2=0)(o:2<=b)(f:b<=64)(g:b%2=0):Calls prog 165 #[X a,X b] c λe d=>e=.returned (.bool true)/\c=d:=by have h:(2:Int)<=(a:Int):=Z;have m:(a:Int)<=64:=Z;have l:(a:Int)%2=0:=Z;have n:(2:Int)<=(b:Int):=Z;have i:(b:Int)<=64:=Z;have j:(b:Int)%2=0:=Z;go_in;exact AG
theorem qQ(a:aq)(c:aK)(b:a.Ok)(i:N):Calls prog 125 #[al a c] i λh j=>h=.returned (.bool true)/\V [] i j:=by
 have d:=Y b;obtain⟨n,k⟩:∃e,e=a.y.length:=⟨_,rfl⟩;obtain⟨p,m⟩:∃e,e=a.u.length:=⟨_,rfl⟩;obtain⟨q,l⟩:∃e,e=a.v.length:=⟨_,rfl⟩;have C:(n:Int)=(a.w:Int)*(a.h:Int):=by rw[k,b.d',pB]
 have x:(p:Int)=(a.w:Int)/2*((a.h:Int)/2):=by rw[m,b.eM,pB,AS,AS];rfl
 have s:(q:Int)=(a.w:Int)/2*((a.h:Int)/2):=by rw[l,b.aR,pB,AS,AS];rfl
 unfold al;rw[<-k,<-m,<-l];have A:=b.gG;have t:=b.fH;have B:=b.iY;have z:=b.fr;clear k m l b;have o:Calls prog 165 #[X (a.w:Int),X (a.h:Int)] (i.alloc (.cells #[X (a.w:Int),X (a.h:Int),.slice c.a n c.cJ,.slice c.b p c.cT,.slice c.c q c.cm] 71)) λh j=>h=.returned (.bool true)/\_=j:=L' a.w a.h _ d.out.gG d.out.fH d.out.kC d.out.iY d.out.fr d.out.he;have r:=Y o;clear o;generalize a.w=f at*;generalize a.h=g at*;have u:(0:Int)<=(f:Int)*(g:Int):=qF Z Z;have D:(f:Int)*(g:Int)<=64*64:=wm Z Z Z Z;have E:(0:Int)<=(f:Int)/2*((g:Int)/2):=qF Z Z;have w:(f:Int)/2*((g:Int)/2)<=32*32:=wm Z Z Z Z;go_in;go_wp2_with fail
 refine(r.out).mono ?_;rintro h y ⟨rfl,rfl⟩;go_wp2_with fail
 go_ret;exact⟨rfl,(V.refl _ _).alloc _⟩
def EX:TypeDesc->Bool
 |.struct _|.array _ _=>true
 |_=>false
structure bT(a:Qav)(T:Qat)(c:Nat):Prop where
 ex:∃b,a.underlying T=some b/\EX b=true/\(a.info? T).map (·.size)=some c
section
variable {k:Qav}{m:Qak}{D:Qal}{o:Qax}{g:Act}{c:N}{u:Qaa}{w C:Qau}{T B:Qat}{h zf:Nat}{i Q:Qad}
theorem bT.load(d:bT k T i.size){b:Qat}(f:ag c h b i):(loadVar T ⟨h,0,none⟩).run k c=.ok (i) c:=by obtain⟨a,g,j,e⟩:=d;exact tn c h b T i (0,0) a f g (by cases a<;>first|rfl|cases j) e
theorem hA(a:bT k T i.size)(b:ag c h B i)(j:o.guard=none)(p:o.op=.load T w)(n:g.eval w=ab h)(f:wpList k m u D (g.put o.dst (i)) c):wpList k m u (o::D) g c:=by obtain⟨e,d,l,q⟩:=a;exact rN j T w p h n B _ (0,0) _ b d (by cases e<;>first|rfl|cases l) q f
theorem mq(a:bT k T i.size)(b:ag c h B i)(j:cB o m g)(q:o.op=.load T w)(p:g.eval w=ab h)(f:wpList k m u D (g.put o.dst (i)) c):wpList k m u (o::D) g c:=by obtain⟨e,d,l,r⟩:=a;exact nf λs n=>by rw[ae j];exact wp_load_row T w q h p B _ (0,0) _ b d (by cases e<;>first|rfl|cases l) r (n _ _ f)
theorem cv(b:bT k T Q.size)(d:ag c h B i)(n:i.size=Q.size)(e:Q.all (·.oneCell')=true)(j:o.guard=none)(q:o.op=.store T w C)(p:g.eval w=ab h)(l:g.eval C=Q) (f:∀a,ag a h B Q->V [h] c a->a.heap.size=c.heap.size->wpList k m u D (g.put o.dst undef) a):wpList k m u (o::D) g c:=by obtain⟨s,_,_,r⟩:=b;exact vR Q d j q p l r n e f
theorem eH(f:zd.results=#[.cell K T]){a:Qad}(b:bT k T i.size)(m:ag c h B i)(d:a.getD K undef=ab h):(results zd a).run k c=.ok (i) c:=by obtain⟨g,j,l,e⟩:=b;exact v' f a c h B _ (0,0) _ d m j (by cases g<;>first|rfl|cases l) e
theorem eW{b:Tmp}(f:zd.results=#[.cell K T,.tmp b]){a:Qad}(d:bT k T i.size)(g:ag c h B i)(e:a.getD K undef=ab h):(results zd a).run k c=.ok (.tuple #[i,a.getD b undef]) c:=by rw[results_cell_tmp f,e];simp[asAddr,d.load g]
theorem Y3{d:Tmp}{a f:Qat}(n:zd.results=#[.cell K T,.cell d a]){b:Qad}(m:bT k T i.size)(o:bT k a Q.size)(q:ag c h B i)(p:ag c zf f Q) (l:b.getD K undef=ab h) (j:b.getD d undef=.pointer (some ⟨zf,0,none⟩)):(results zd b).run k c=.ok (.tuple #[i,Q]) c:=by exact Ma
end
theorem cr.iZ{a:Qax}{d:Nat}{T:Qat}(h:bT k T i.size){b:Qau} (o:cB a m g) (r:a.op=.load T b) (q:g.eval b=ab d) (e:ag c d A i) (j:cr.ba (bA []) k m u f H I (g.put a.dst (i)) c):cr.ba (bA []) k m u f ((a,0)::H) I g c:=by obtain⟨n,l,p,s⟩:=h;exact cr.W5 b o r q e l (by cases n<;>first|rfl|cases p) s j
theorem V.shut{b:Nat}(a:V [b] c n)(h:ag c b A i)(f:ag n b A i):V [] c n:=⟨a.os,a.tape,a.output,a.size,λe g _=>by
 by_cases d:e=b
 .subst d;exact f.trans h.symm
 .exact a.block e g (by simpa using d)⟩
theorem aB:bT prog 71 5:=⟨_,underlying71,rfl,ar⟩
theorem gd:bT prog 241 4:=⟨_,underlying241,rfl,ar⟩
theorem bY:dJ 71 (.agg eh):=dM
theorem mr:dJ 241 (.agg #[X 0,X 0,X 0,X 0]):=dM
def hb(a d b c:Nat):Qad:=#[X a,X d,X b,X c]
structure aq.dd(a:aq):Prop extends a.Ok where
 eN:a.w%16=0
 ev:a.h%16=0
theorem tR(a:aq)(c:aK)(e:a.dd)(b:N):Calls prog 199 #[al a c] b λd f=>d=.returned (.bool true)/\V [] b f:=by
 have o:(a.w:Int)%16=0:=by have:=e.eN;omega
 have g:(a.h:Int)%16=0:=by have:=e.ev;omega
 have h:=Y (qQ a c e.toOk (b.alloc (.cells (al a c) 71)));exact Mb
def cC(b:Qad)(a:Nat)(aL:Qam):Qad:=(b.toList.take a++aL++b.toList.drop (a+aL.length)).toArray
theorem tS{a:Nat}{aL:Qam}(b:a+aL.length<=i.size):(cC i a aL).size=i.size:=by have:i.toList.length=i.size:=U;simp only[cC,mW,aZ,kb,oB];omega
theorem pC{a:Nat}{aL:Qam}(d:a+aL.length<=i.size)(b:s<aL.length):(cC i a aL)[a+s]? =aL[s]? :=by
 have c:(i.toList.take a).length=a:=by rw[kb];simp;omega
 simp only[cC,b4];rw[b5,db Z,c,ki,eE b]
theorem nR{a:Nat}{aL:Qam}(d:a+aL.length<=i.size)(b:x<a\/a+aL.length<=x):(cC i a aL)[x]? =i[x]? :=by
 have c:(i.toList.take a).length=a:=by rw[kb];simp;omega
 simp only[cC,b4];rw[<-eo,b5];rcases b with b|b
 .rw[eE Z,tH b]
 .rw[db Z,c,db Z,pf];congr 1;omega
section
variable {k:Qav}{m:Qak}{D:Qal}{o:Qax}{g:Act}{c:N}{u:Qaa}{w C:Qau}{T B:Qat}{h x:Nat}{i aL:Qad}{v:Qas}
theorem ag.r8(e:ag c h B i)(f:∀a,a<aL.size->i[x+a]? =aL[a]?):c.rangeAt h x aL.toList:=λa g b=>by
 have d:a<aL.size:=by have:=(e8.1 b).1;simpa using this
 rw[e.au,f a d,<-b,eo]
theorem ag.Y4(b:ag c h B i){a:Nat}(f:x+a<=i.size):c.there h x a:=λe d=>⟨by rw[b.au,wL Z];rfl,b.eA _⟩
theorem Mc:∀(aL:Qam)(e:N)(b:Qad)(a:Nat),ag e h B b->a+aL.length<=b.size->ag (e.setCells h a aL) h B (cC b a aL)/\V [h] e (e.setCells h a aL)
 |[],e,b,a,q,_=>by
  refine⟨?_,V.refl _ _⟩;have:cC b a []=b:=by simp[cC]
  rw[this];exact q
 |f::d,e,b,a,q,k=>by
  obtain⟨n,aU⟩:=q.hc a f;have i:=Mc d _ _ (a+1) n (by simp at k⊢;omega);have m:cC (b.setIfInBounds a f) (a+1) d=cC b a (f::d):=by
   simp only[cz]at k;apply kc;intro c;rcases jn c a with g|g
   .rw[nR aw (.inl Z),nR aw (.inl g),Md Z]
   .rcases AO g with rfl|g
    .rw[nR aw (.inl Z)];have:=pC (i:=b) (a:=a) (s:=0) (aL:=f::d) aw U;rw[fs]at this;rw[this,Array.getElem?_setIfInBounds_self_of_lt Z];rfl
    .rcases jn c (a+1+d.length)with o|o
     .have l:=pC (i:=b.setIfInBounds a f) (a:=a+1) (s:=c-(a+1)) (aL:=d) aw Z;have j:=pC (i:=b) (a:=a) (s:=c-a) (aL:=f::d) aw aw;rw[show a+1+(c-(a+1))=c from Z]at l;rw[show a+(c-a)=c from Z,show c-a=(c-(a+1))+1 from Z,dt]at j;rw[l,j]
     .rw[nR aw (.inr Z),nR aw (.inr aw),Md Z]
  rw[m]at i;exact⟨i.1,aU.trans i.2 (b3.refl _ _)⟩
theorem Me:∀(aL:Qam)(a:N)(b:Nat),(a.setCells h b aL).heap.size=a.heap.size
 |[],_,_=>rfl
 |c::H,a,b=>by show((a.setCell _ c).setCells h (b+1) H).heap.size= _;rw[Me H];simp
theorem r9(d:bT k T aL.size)(e:ag c h B i)(r:∀a,a<aL.size->i[x+a]? =aL[a]?)(n:cB o m g)(y:o.op=.load T w)(t:g.eval w=.pointer (some ⟨h,x,none⟩))(l:wpList k m u D (g.put o.dst (aL)) c):wpList k m u (o::D) g c:=by obtain⟨b,f,q,p⟩:=d;exact nf λj s=>by rw[ae n];have:=wp_load_mid (K:=j) (Q:=u) T w y h x t aL.toList b (e.r8 r) f (by cases b<;>first|rfl|cases q) mY (s _ _ (by simpa using l));exact this
theorem cr.hh{b:Qab}(e:bT k T aL.size)(l:ag c h B i)(u:∀a,a<aL.size->i[x+a]? =aL[a]?)(s:cB o m g)(r:o.op=.load T w)(j:g.eval w=.pointer (some ⟨h,x,none⟩)) (q:cr.ba (bA []) k m b f H I (g.put o.dst (aL)) c):cr.ba (bA []) k m b f ((o,0)::H) I g c:=by obtain⟨d,n,t,p⟩:=e;refine cr.rL _ s (λz y=>?_) q;have:=run_loadAt_mid (P:=k) z h x T aL.toList d ((l.S y U).r8 u) n (by cases d<;>first|rfl|cases t) mY;exact EY
theorem i1(aL:Qad)(n:o.guard=none)(r:o.op=.store T w C)(q:g.eval w=.pointer (some ⟨h,x,none⟩))(p:g.eval C=aL)(e:bT k T aL.size)(b:ag c h B i)(d:x+aL.size<=i.size)(f:aL.all (·.oneCell')=true) (l:∀a,ag a h B (cC i x aL.toList)->V [h] c a->a.heap.size=c.heap.size->wpList k m u D (g.put o.dst undef) a):wpList k m u (o::D) g c:=by obtain⟨t,_,_,s⟩:=e;obtain⟨j,aU⟩:=Mc aL.toList c i x b (by simpa using d);exact wpList_store_mid n T w C r h x aL q p (b.Y4 d) s f (l _ j aU (Me _ _ _))
theorem Y5{b:TypeDesc}(c:k.underlying T=some b)(ak:EX b=false)(a:N):(isAgg T).run k a=.ok false a:=by unfold isAgg;rw[eS,h7 c a];cases b<;>first|rfl|cases ak
def EZ:Value->Bool
 |.int _ _|.bool _|.slice _ _ _|.pointer _=>true
 |_=>false
theorem eI(v:Qas)(p:o.guard=none)(E:o.op=.store T w C)(y:g.eval w=.pointer (some ⟨h,x,none⟩))(q:g.eval C=v)(b:ag c h B i)(s:x<i.size)(e:(k.info? T).map (·.size)=some 1)(j:EZ v=true) (n:∀a,ag a h B (i.setIfInBounds x v)->V [h] c a->a.heap.size=c.heap.size->wpList k m u D (g.put o.dst undef) a):wpList k m u (o::D) g c:=by
 obtain⟨l,aU⟩:=b.hc x v;refine jq p λH t=>?_;have r:=t _ _ (n _ l aU U);have f:c.cell? ⟨h,x,none⟩=some i[x]:=by rw[b.au,wL s]
 have F:=b.eA x;cases d:k.info? T with
 |none=>simp[d]at e
 |some z=>
  have A:z.size=1:=by simpa[d]using e
  have G:(storeVar T ⟨h,x,none⟩ v).run k c=.ok () (c.setCell ⟨h,x,none⟩ v):=by cases v<;>first|(simp[storeVar,sizeOf,typeInfo,d,A,Value.cells,storeCells,f,F,go_sem,Addr.add];done)|cases j
  unfold Oper.wp execOp;simp only[E,y,q,Instr.storeAt,Instr.sureAddr,eS,iW,gl,G];exact r
end
theorem E0(a:aq)(c:aK)(g:a.dd)(b:N)(e f:Nat)(u:e<a.w/16)(r:f<a.h/16):Calls prog 162 #[al a c,X e,X f] b λd o=>d=.returned (.bool true)/\V [] b o:=by have s:(e:Int)<(a.w:Int)/16:=Z;have q:(f:Int)<(a.h:Int)/16:=Z;have p:=g.fH;have t:=g.fr;have h:=Y (tR a c g (b.alloc (.cells (al a c) 71)));exact Mb
theorem k9(a d b c:Nat):(hb a d b c).all (·.oneCell')=true:=by simp[hb,Value.oneCell']
theorem E1(c f e:Nat)(D:c<=64)(ze:f<=4)(za:e<=4):Calls prog 164 #[X c,X f,X e] a λC z=>C=.returned (.tuple #[hb (16*e*c+16*f) c 16 16,.agg (hb (8*e*(c/2)+8*f) (c/2) 8 8)])/\V [] a z:=by
 obtain⟨g,m⟩:∃g,g=16*e*c:=⟨_,rfl⟩;obtain⟨i,o⟩:∃i,i=8*e*(c/2):=⟨_,rfl⟩;have I:16*e*c<=64*64:=eL Z D;have A:8*e*(c/2)<=32*32:=eL Z Z;have zm:16*(e:Int)*(c:Int)=(g:Int):=by rw[m];push_cast;rfl
 have O:8*(e:Int)*((c:Int)/2)=(i:Int):=by rw[o];push_cast;rfl
 rw[<-m]at I⊢;rw[<-o]at A⊢;clear m o;refine kD λG J K E=>?_;go_in;go_wp2_with(first|(clear G;refine cw _ _ rfl rfl mr rfl ?_;intro zc Q j y zj)|(clear J;refine cw _ _ rfl rfl mr rfl ?_;intro zl zk B t zd;have zo:=j.lt;replace j:=j.S t U)|(clear K;refine cv (Q:=hb (g+16*f) c 16 16) gd j rfl (k9 _ _ _ _) rfl rfl rfl rfl ?_;intro zf F w zh)|(clear E;refine cv (Q:=hb (i+8*f) (c/2) 8 8) gd (B.S w aw) rfl (k9 _ _ _ _) rfl rfl rfl rfl ?_;intro zi x u P))
 have k:=F.S u aw;refine rg [] [0,1,102,103] ?_;refine iZ gd rfl rfl rfl k ?_;simp only[az];refine iZ gd rfl rfl rfl x ?_;simp only[az];refine gn λn h=>?_;refine cv (Q:=hb (g+16*f) c 16 16) gd k rfl (k9 _ _ _ _) rfl rfl rfl rfl ?_;intro L r s zb;have l:=x.drew.S s aw;refine h _ _ (s.shut k.drew r) ?_;clear h n;simp only[az];refine gn λn h=>?_;refine cv (Q:=hb (i+8*f) (c/2) 8 8) gd l rfl (k9 _ _ _ _) rfl rfl rfl rfl ?_;intro W q p zn;refine h _ _ (p.shut l q) ?_;clear h n;refine ax ?_;go_wp2_with fail
 have H:=((((((y.ad t).own w Z).own u (by have:=y.size;omega)).drew).ad (s.shut k.drew r)).ad (p.shut l q));exact bB (Y3 rfl gd gd (r.S p aw) q rfl rfl) ⟨rfl,H⟩
def wM(a b:Int):Qad:=#[X a,X b,X 8,X 8]
theorem Mf(a b:Int):(wM a b).all (·.oneCell')=true:=by simp[wM,Value.oneCell']
def e9(a c d b:Nat)(e:Bool):Nat×Nat:=if 4<=b then(8*d*(a/2)+8*c,a/2)else if e then(16*d*a+16*c+b%2*8+b/2*a,2*a)else(16*d*a+16*c+b%2*8+b/2*8*a,a)
theorem Mg(a:E:=by exact bB (eH rfl gd D rfl) ⟨by rw[q.out];simp[hb,wM],A.out.own C z⟩):E:=a
theorem Y6(b l i d:Nat)(s:Bool)(B:b<=64)(zu:l<=4)(zs:i<=4)(zD:d<6):Calls prog 227 #[X b,X l,X i,X d,.bool s] a λzc zp=>zc=.returned (hb (e9 b l i d s).1 (e9 b l i d s).2 8 8)/\V [] a zp:=by
 have q:ck (e9 b l i d s=if 4<=d then(8*i*(b/2)+8*l,b/2)else if s then(16*i*b+16*l+d%2*8+d/2*b,2*b)else(16*i*b+16*l+d%2*8+d/2*8*b,b)):=rfl;have zz:16*i*b<=64*64:=eL Z B;have zq:8*i*(b/2)<=32*32:=eL Z Z;have zv:d/2*b<=2*64:=eL Z B;have zx:d/2*8*b<=16*64:=eL Z B;have zo:(d:Int)/2*(b:Int)=((d/2*b:Nat):Int):=by push_cast;rfl
 have zr:(d:Int)/2*8*(b:Int)=((d/2*8*b:Nat):Int):=by push_cast;rfl
 obtain⟨k,W⟩:∃k,k=16*i*b+16*l:=⟨_,rfl⟩;obtain⟨r,ze⟩:∃r,r=8*i*(b/2)+8*l:=⟨_,rfl⟩;obtain⟨E,zl⟩:∃E,E=d/2*b:=⟨_,rfl⟩;obtain⟨K,t⟩:∃K,K=d/2*8*b:=⟨_,rfl⟩;have zC:k<=5000:=Z;have zA:r<=5000:=Z;have zf:=Y (λa=>E1 a b l i B zu zs);rw[<-W,<-ze]at q zf;rw[<-zl]at q zo zv;rw[<-t]at q zr zx;clear W ze zl t zz zq;refine AT λzt L O G P zy I=>?_;go_in;go_wp2_with(clear zt;refine cw _ _ rfl rfl mr rfl ?_;intro H zB c p J)
 refine(zf.out _).mono ?_;rintro zc zF ⟨rfl,o⟩;replace c:=c.S o U;have zE:=c.lt;by_cases t:4<=d
 .have zw:(4:Int)<=(d:Int):=Z;rw[ae t]at q;go_wp2_with(first|(clear L;refine cw _ _ rfl rfl mr rfl ?_;intro u zj f j zn;replace c:=c.S j U)|(clear O;refine cw _ _ rfl rfl mr rfl ?_;intro zi zk m e zh;have zb:=f.lt;replace c:=c.S e U;replace f:=f.S e U)|(clear G;refine cv (Q:=hb k b 16 16) gd f rfl (k9 _ _ _ _) rfl rfl rfl rfl ?_;intro Q n h x;replace c:=c.S h aw;replace m:=m.S h aw)|(clear P;refine cv (Q:=hb r (b/2) 8 8) gd m rfl (k9 _ _ _ _) rfl rfl rfl rfl ?_;intro w F g y;replace c:=c.S g aw;replace n:=n.S g aw;have za:w.cell? ⟨u,0,none⟩=some (.int .i64 (k:Int)):=n.au 0;have A:=Y (((((p.ad o).ad j).ad e).own h E2).own g E3);have z:a.heap.size<=H:=J;clear p o j e h g x y)|(clear zy;refine hA gd F rfl rfl rfl ?_)|(clear I;refine cv (Q:=hb r (b/2) 8 8) gd c rfl (k9 _ _ _ _) rfl rfl rfl rfl ?_;intro zd D C zm))
  exact bB (eH rfl gd D rfl) ⟨by rw[q.out],A.out.own C z⟩
 .have zw:(d:Int)<4:=Z;rw[M t]at q;clear t;cases s
  .go_wp2_with(first|(clear L;refine cw _ _ rfl rfl mr rfl ?_;intro u zj f j zn;replace c:=c.S j U)|(clear O;refine cw _ _ rfl rfl mr rfl ?_;intro zi zk m e zh;have zb:=f.lt;replace c:=c.S e U;replace f:=f.S e U)|(clear G;refine cv (Q:=hb k b 16 16) gd f rfl (k9 _ _ _ _) rfl rfl rfl rfl ?_;intro Q n h x;replace c:=c.S h aw;replace m:=m.S h aw)|(clear P;refine cv (Q:=hb r (b/2) 8 8) gd m rfl (k9 _ _ _ _) rfl rfl rfl rfl ?_;intro w F g y;replace c:=c.S g aw;replace n:=n.S g aw;have za:w.cell? ⟨u,0,none⟩=some (.int .i64 (k:Int)):=n.au 0;have A:=Y (((((p.ad o).ad j).ad e).own h E2).own g E3);have z:a.heap.size<=H:=J;clear p o j e h g x y)|(clear I;refine cv (Q:=wM ((k:Int)+(d:Int)%2*8+(K:Int)) (b:Int)) gd c rfl (Mf _ _) rfl rfl rfl rfl ?_;intro zd D C zm))
   exact Mg
  .go_wp2_with(first|(clear L;refine cw _ _ rfl rfl mr rfl ?_;intro u zj f j zn;replace c:=c.S j U)|(clear O;refine cw _ _ rfl rfl mr rfl ?_;intro zi zk m e zh;have zb:=f.lt;replace c:=c.S e U;replace f:=f.S e U)|(clear G;refine cv (Q:=hb k b 16 16) gd f rfl (k9 _ _ _ _) rfl rfl rfl rfl ?_;intro Q n h x;replace c:=c.S h aw;replace m:=m.S h aw)|(clear P;refine cv (Q:=hb r (b/2) 8 8) gd m rfl (k9 _ _ _ _) rfl rfl rfl rfl ?_;intro w F g y;replace c:=c.S g aw;replace n:=n.S g aw;have za:w.cell? ⟨u,0,none⟩=some (.int .i64 (k:Int)):=n.au 0;have A:=Y (((((p.ad o).ad j).ad e).own h E2).own g E3);have z:a.heap.size<=H:=J;clear p o j e h g x y)|(clear I;refine cv (Q:=wM ((k:Int)+(d:Int)%2*8+(E:Int)) (2*(b:Int))) gd c rfl (Mf _ _) rfl rfl rfl rfl ?_;intro zd D C zm))
   exact Mg
theorem AU(b:(prog.info? e).map (·.size)=some 1):∃a,prog.info? e=some a/\a.size=1:=by
 cases c:prog.info? e with
 |none=>simp[c]at b
 |some a=>exact⟨a,rfl,by simpa[c]using b⟩
theorem Mh(j:prog.underlying A=some (.slice e))(m:(prog.info? e).map (·.size)=some 1)(d:N)(f:Qae)(h c a b:Nat)(o:a<=b)(p:b<=c):(Instr.sliceAt A (.slice f h c) (some (.int .i64 (a:Int))) (some (.int .i64 (b:Int))) none).run prog d=.ok (.slice (if c=a then f else f.map (·.add (a*1))) (b-a) (c-a)) d:=by have i:=qR (P:=prog) (w:=d) .i64 (a:Int) b .sliceB Z Z;have k:=qR (P:=prog) (w:=d) .i64 (b:Int) c .sliceAcap Z Z;obtain⟨n,g,l⟩:=AU m;simp[Instr.sliceAt,Instr.slice,h7 j,Instr.sliceBounds,sizeOf,typeInfo,g,l,i,k]
theorem Y7(h:prog.underlying A=some (.slice e))(k:(prog.info? e).map (·.size)=some 1)(d:N)(f:Qae)(b c a:Nat)(m:a<=b):(Instr.sliceAt A (.slice f b c) (some (.int .i64 (a:Int))) none none).run prog d=.ok (.slice (if c=a then f else f.map (·.add (a*1))) (b-a) (c-a)) d:=by have j:=qR (P:=prog) (w:=d) .i64 (a:Int) b .sliceB Z Z;obtain⟨l,g,i⟩:=AU k;simp[Instr.sliceAt,Instr.slice,h7 h,Instr.sliceBounds,sizeOf,typeInfo,g,i,j]
theorem jQ:(prog.info? 5).map (·.size)=some 1:=ar
section
variable {m:Qak}{u:Qab}{H:Qai}{I:Qaj}{o:Qax}{g:Act}{c:N}{f:Nat}{w C zs:Qau}{A e:Qat}
theorem cr.Mi(t:prog.underlying A=some (.slice e))(p:(prog.info? e).map (·.size)=some 1){h:Qae}{len b:Nat}(a d:Nat)(j:a<=d)(n:d<=b)(l:cB o m g)(s:o.op=.slice A w (some C) (some zs) none) (q:g.eval w=.slice h len b) (k:g.eval C=X a) (r:g.eval zs=X d) (i:ba (bA []) prog m u f H I (g.put o.dst (.slice (if b=a then h else h.map (·.add (a*1))) (d-a) (b-a))) c):ba (bA []) prog m u f ((o,0)::H) I g c:=by refine rL _ l (λx _=>?_) i;unfold execOp;simp only[s,hU,rW,q,k,r,eS,Mh t p x h len b a d j n,gl];rfl
theorem cr.Mj(q:prog.underlying A=some (.slice e))(l:(prog.info? e).map (·.size)=some 1){d:Qae}{len b:Nat}(a:Nat)(i:a<=len)(k:cB o m g)(p:o.op=.slice A w (some C) none none) (n:g.eval w=.slice d len b) (j:g.eval C=X a) (h:ba (bA []) prog m u f H I (g.put o.dst (.slice (if b=a then d else d.map (·.add (a*1))) (len-a) (b-a))) c):ba (bA []) prog m u f ((o,0)::H) I g c:=by refine rL _ k (λr _=>?_) h;unfold execOp;simp only[p,hU,rW,n,j,eS,Y7 q l r d len b a i,gl];rfl
theorem cr.Y8(y:prog.underlying A=some (.slice e))(r:(prog.info? e).map (·.size)=some 1){h j len d:Nat}(a b i:Nat)(z:j+a=i)(l:a<=b)(q:b<=d)(B:a<d)(p:cB o m g)(x:o.op=.slice A w (some C) (some zs) none) (s:g.eval w=.slice (some ⟨h,j,none⟩) len d) (n:g.eval C=X a) (t:g.eval zs=X b) (k:ba (bA []) prog m u f H I (g.put o.dst (.slice (some ⟨h,i,none⟩) (b-a) (d-a))) c):ba (bA []) prog m u f ((o,0)::H) I g c:=by refine cr.Mi y r a b l q p x s n t ?_;rw[M Z,hU,ox,k3,z];exact k
end
theorem wN(b:af):∀v∈aC b,v.oneCell'=true:=λv a=>by obtain⟨c,_,rfl⟩:=ca.1 a;rfl
theorem r'(b a:af):aC (b++a)=aC b++aC a:=mo
theorem pD(a:af):(aC a).length=a.length:=mo
theorem AV(b:af)(a:Nat):(aC b).drop a=aC (b.drop a):=mo
theorem sa(b:af)(a:Nat):(aC b).take a=aC (b.take a):=mo
theorem wO(a:Nat):List.replicate a (Value.int .u8 0)=aC (List.replicate a 0):=mo
theorem Y9(b a:af)(c:Nat)(d:a.length<=c):splice (aC (b++List.replicate c 0)) b.length (aC a)=aC (b++a++List.replicate (c-a.length) 0):=by unfold splice;rw[sa,pD,AV,<-r',<-r',tT rfl,E4,AW Z,cU,List.drop_replicate,show c-(b.length+a.length-b.length)=c-a.length from Z,b5]
def dy(c:af)(b e a:Nat):Nat->List Nat
 |0=>[]
 |d+1=>dy c b e a d++(c.drop (b+d*e)).take a
theorem pE(e:af)(d f b:Nat):∀a,(∀c,c<a->d+c*f+b<=e.length)->(dy e d f b a).length=a*b
 |0,_=>by simp[dy]
 |a+1,g=>by have h:=pE e d f b a (λc i=>g c Z);have j:=g a Z;simp only[dy,aZ,h,kb,oB];rw[DK Z,ia]
theorem Y'{a b:Nat}(g:L=d*a)(l:ze=L+a)(e:(dy y zb J a d).length=d*a)(i:zc=zb+d*J)(k:zc+a<=y.length)(j:ze<=b):splice (aC (dy y zb J a d++List.replicate (b-L) 0)) L ((aC (y.drop zc)).take (ze-L))=aC (dy y zb J a (d+1)++List.replicate (b-(d+1)*a) 0):=by
 have f:ze-L=a:=Z;have c:((y.drop zc).take a).length=a:=by rw[kb,oB];omega
 have h:L=(dy y zb J a d).length:=by rw[e,g]
 have:=Y9 (dy y zb J a d) ((y.drop zc).take a) (b-L) (by rw[c];omega);rw[f,sa];rw[<-h,c]at this;rw[this];simp only[dy];rw[<-i,show b-(d+1)*a=b-L-a by rw[ia];omega]
def wP(a:af)(c:N)(e:Ending)(d:N):Prop:=∃b,e=.returned (.slice (ab b) a.length a.length)/\ag d b 5 (aC a).toArray/\V [] c d/\c.heap.size<=b
theorem sb(C:Qae)(B:Nat)(j:af)(h f c k:Nat)(zq:aF a C 1 j.length (aC j))(zD:j.length<=B)(zY:j.length<=4096)(z6:1<=c)(zu:c<=64)(zd:k<=64)(zo:f<=128)(z8:h<=8192) (zk:∀d,d<k->h+d*f+c<=j.length):Calls prog 133 #[.slice C j.length B,hb h f c k] a (wP (dy j h f c k) a):=by
 obtain⟨zR,zt,zH,zx,G⟩:=k8 kB;have zO:=Y zq;have D:=Y zk;have zc:=Y (pE j h f c);obtain⟨l,F⟩:∃l,l=c*k:=⟨_,rfl⟩;have zZ:(c:Int)*(k:Int)=(l:Int):=by rw[F];push_cast;rfl
 have zX:l<=64*64:=by rw[F];exact eL zu zd
 have zf:=Y F;clear zq zk F;go_in;go_wp2_with(first|(refine cx _ _ rfl rfl rfl rfl ?_;intro r q s zh z7;have z:q.cell? ⟨r,0,none⟩=some (.int .i64 (h:Int)):=s.au 0;have y:q.cell? ⟨r,1,none⟩=some (.int .i64 (f:Int)):=s.au 1;have u:q.cell? ⟨r,2,none⟩=some (.int .i64 (c:Int)):=s.au 2;have zC:q.cell? ⟨r,3,none⟩=some (.int .i64 (k:Int)):=s.au 3)|(at_make;refine qt _ rfl _ _ 57 rfl 5 zR (.int .u8 0) underlying57 zt zH zx rfl _ _ _ _ l rfl rfl rfl rfl ng ib ?_;intro zp zb H aU;have z':=s.lt;replace s:=s.S H U;clear z y u zC;have zN:zp.cell? ⟨r,3,none⟩=some (.int .i64 (k:Int)):=s.au 3))
 have zl:=Y s;have zr:=Y (zh.ad H);have W:a.heap.size<=q.heap.size:=zh.size;clear s zh H aU zN;rw[wO]at zb;go_loopw [15] (λI wr=>∃d:Nat,d<=k/\I=X d/\Hid (ag wr q.heap.size 5 (aC (dy j h f c d++List.replicate (l-d*c) 0)).toArray)/\Hid (V [q.heap.size] zp wr)) (λI _=>k-(intOf I).toNat)
 .exact⟨0,Z,rfl,Y (by simpa[dy]using zb),Y (V.refl _ _)⟩
 .obtain⟨d,zs,rfl,K,x⟩:=hrel;clear zb;refine Mk λz y u=>?_;by_cases zL:d<k
  .refine Ml λe m i o p n g t ze za P J w=>?_;have zE:i<=l:=by rw[o,zf.out,eF c k];exact ix _ Z
   have zQ:g+c<=j.length:=by have:=D.out d zL;rw[t,n];omega
   have zW:p<=8192:=Mm;have zV:=Y w;rw[<-m]at K;have zP:(d:Int)<(k:Int):=Z;have Q:=Y (And.intro m (And.intro o (And.intro n t)));have z1:e<i:=Z;have zn:=zO.out.ad ((zr.out.own x.out W).drew);have zS:=Y (show aF wr.drew (if B=g then C else C.map (·.add (g*1))) 1 (j.length-g) (aC (j.drop g)) by have:=zn.cut (b:=g) (bH:=B) Z zD;simpa only[k3,AV]using this);have zA:=Y (show e+(i-e)<=(aC (dy j h f c d++List.replicate (l-e) 0)).length by rw[pD,aZ,hy,zc.out d (λL zT=>D.out L Z),<-m];omega);clear m o n t w zn;go_wp2_with fail
   refine E5 18 220 ?_;refine to ?_;refine Y8 underlying57 jQ e i e (c' _) Z Z Z rfl rfl rfl rfl rfl ?_;refine nI ?_;refine Mj underlying57 jQ g Z rfl rfl rfl rfl ?_;simp only[az];refine el λzv zj=>?_;refine rF _ rfl _ _ 57 57 rfl 5 underlying57 jQ q.heap.size e (i-e) (l-e) _ (j.length-g) (B-g) rfl rfl (aC (dy j h f c d++List.replicate (l-e) 0)) 5 K.out.drew _ zS.out zA.out (wN _) ?_;intro zF A O;refine zj _ _ ?_;clear zj zv;refine ax ?_;have zi:=Y (show ag zF q.heap.size 5 (aC (dy j h f c (d+1)++List.replicate (l-(d+1)*c) 0)).toArray by rw[Y' Q.out.1 zV.out (zc.out d (λL zT=>D.out L Z)) (by rw[Q.out.2.2.2,Q.out.2.2.1]) zQ zE]at A;exact A);exact Mn
  .have zJ:d=k:=Z;subst zJ;have zP:¬((d:Int)<(d:Int)):=Z;go_wp2_with fail
   go_ret;have zI:=zc.out d D.out;have zU:l-d*c=0:=by rw[zf.out,eF];omega
   have zm:=K.out;rw[zU,wQ,eG]at zm;refine⟨q.heap.size,?_,zm,zr.out.own x.out W,W⟩;rw[zI,<-eF c d,<-zf.out];rfl
theorem cr.AX{b:Qax}(s:prog.underlying A=some (.slice e))(p:(prog.info? e).map (·.size)=some 1){h j len d:Nat}(a i:Nat)(t:j+a=i)(l:a<=len)(x:a<d)(o:cB b m g)(r:b.op=.slice A w (some C) none none) (q:g.eval w=.slice (some ⟨h,j,none⟩) len d) (n:g.eval C=X a) (k:ba (bA []) prog m u f H I (g.put b.dst (.slice (some ⟨h,i,none⟩) (len-a) (d-a))) c):ba (bA []) prog m u f ((b,0)::H) I g c:=by refine cr.Mj s p a l o r q n ?_;rw[M Z,hU,ox,k3,t];exact k
theorem aF.sub(a:aF c zm 1 f zh)(b:s<=r)(d:r<=f)(e:f<=t):aF c (if t=s then zm else zm.map (·.add (s*1))) 1 (r-s) ((zh.take r).drop s):=by have:=(a.front d).cut (b:=s) (bH:=t) b Z;simpa using this
theorem AY(b:af)(a c:Nat):((aC b).take c).drop a=aC ((b.take c).drop a):=mo
def eX(e:af)(b c a:Nat)(f:af):Nat->List Nat
 |0=>e
 |d+1=>(eX e b c a f d).take (b+d*c)++(f.take ((d+1)*a)).drop (d*a)++(eX e b c a f d).drop (b+d*c+a)
theorem ms(c:af)(f g b:Nat)(e:af):∀a,(∀d,d<a->f+d*g+b<=c.length)->a*b<=e.length->(eX c f g b e a).length=c.length
 |0,_,_=>rfl
 |a+1,h,j=>by
  have i:a*b<=e.length:=by rw[ia]at j;omega
  have k:=ms c f g b e a (λd m=>h d Z) i;have n:=h a Z;have l:(a+1)*b=a*b+b:=ia _ _;simp only[eX,aZ,kb,oB,k];omega
theorem Za{b:af}{a:Nat}(c:L=d*a)(h:ze=L+a)(g:zc=zb+d*J)(i:(eX zu zb J a b d).length=f)(j:zc+a<=f)(k:ze<=b.length):splice (aC (eX zu zb J a b d)) zc ((aC ((b.take ze).drop L)).take (f-zc))=aC (eX zu zb J a b (d+1)):=by
 have e:((b.take ze).drop L).length=a:=by rw[oB,kb];omega
 rw[sa,ml qI];unfold splice;rw[sa,AV,pD,e,<-r',<-r'];simp only[eX,b5];rw[<-g,<-c,show(d+1)*a=ze by rw[ia,<-c,h]]
theorem wR(q F:Nat)(k:af)(s:Qae)(u:Nat)(j:af)(h f c l:Nat)(ak:ag a q 5 (aC k).toArray)(zp:aF a s 1 j.length (aC j))(zr:vO s j.length [q])(zD:k.length<=F)(zt:j.length<=u)(zT:k.length<=4096) (zZ:1<=c) (zu:c<=64) (zd:l<=64) (zo:f<=128) (z8:h<=8192) (zf:∀d,d<l->h+d*f+c<=k.length) (K:l*c<=j.length):Calls prog 126 #[.slice (ab q) k.length F,hb h f c l,.slice s j.length u] a λzH zq=>zH=.returned (.tuple #[])/\ag zq q 5 (aC (eX k h f c j l)).toArray/\V [q] a zq:=by
 have zn:=Y zp;have zk:=Y zr;have H:=Y zf;have L:=Y (ms k h f c j);have zI:=Y ak;have z6:=ak.lt;obtain⟨B,Q⟩:∃B,B=k.length:=⟨_,rfl⟩;obtain⟨I,D⟩:∃I,I=j.length:=⟨_,rfl⟩;rw[<-Q]at zD zT H L⊢;rw[<-D]at zt K zn L zk⊢;have zX:=Y Q;have zO:=Y D;clear zp zf zr ak Q D;go_in;go_wp2_with(refine cx _ _ rfl rfl rfl rfl ?_;intro r zm W zb z7;have zP:zm.cell? ⟨r,3,none⟩=some (.int .i64 (l:Int)):=W.au 3)
 have zl:=Y W;have zj:=Y zb;have zN:=Y (zI.out.S zb U);clear W zb zP;go_loopw [9] (λC wr=>∃d:Nat,d<=l/\C=X d/\Hid (ag wr q 5 (aC (eX k h f c j d)).toArray)/\Hid (V [q] zm wr)) (λC _=>l-(intOf C).toNat)
 .exact⟨0,Z,rfl,zN,Y (V.refl _ _)⟩
 .obtain⟨d,zs,rfl,zh,x⟩:=hrel;refine Mk λz y zV=>?_;by_cases zL:d<l
  .refine Ml λe m i o p n g t ze za P J w=>?_;have zE:i<=I:=by rw[o];exact b7 (ix _ Z) K
   have zR:g+c<=B:=by have:=H.out d zL;rw[t,n];omega
   have zU:p<=8192:=Mm;have zW:i<=64*64:=by rw[o];exact eL Z zu
   have z':=Y w;have zQ:(d:Int)<(l:Int):=Z;have zY:e<i:=Z;have G:=L.out d (λzC z1=>H.out zC Z) (b7 (ix _ Z) K);have zx:=Y (Za (zu:=k) (b:=j) m w (by rw[t,n]) G zR (by rw[<-zO.out];exact zE));have zA:=Y (show g+(B-g)<=(aC (eX k h f c j d)).length by rw[pD,G];omega);have zS:=Y (show aF wr.drew (if u=e then s else s.map (·.add (e*1))) 1 (i-e) (aC ((j.take i).drop e)) by rw[<-AY];exact(((zn.out.ad zj.out).S x.out zk.out).drew).sub Z Z zt);clear m o n t w G;go_wp2_with fail
   refine E5 18 220 ?_;refine nI ?_;refine AX underlying57 jQ g g (c' _) Z Z rfl rfl rfl rfl ?_;refine to ?_;refine Mi underlying57 jQ e i Z Z rfl rfl rfl rfl rfl ?_;simp only[az];refine el λzv zc=>?_;refine rF _ rfl _ _ 57 57 rfl 5 underlying57 jQ q g (B-g) (F-g) _ (i-e) (u-e) rfl rfl (aC (eX k h f c j d)) 5 zh.out.drew _ zS.out zA.out (wN _) ?_;intro zF A O;refine zc _ _ ?_;clear zc zv;refine ax ?_;have zi:=Y (show ag zF q 5 (aC (eX k h f c j (d+1))).toArray by rw[<-zx.out];exact A);exact Mn
  .have zJ:d=l:=Z;subst zJ;have zQ:¬((d:Int)<(d:Int)):=Z;go_wp2_with fail
   exact jw (by simp[results,Tryz.results126]) rfl ⟨rfl,zh.out,(zj.out.mono U).trans x.out (b3.refl _ _)⟩
theorem E6(g:Qae)(d:Nat)(c:af)(k:aF a g 1 c.length (aC c))(l:c.length<=d)(p:c.length<=1048576):Calls prog 200 #[.slice g c.length d] a (wP c a):=by
 obtain⟨u,m,o,s,G⟩:=k8 kB;have i:=Y k;obtain⟨b,f⟩:∃b,b=c.length:=⟨_,rfl⟩;rw[<-f]at l p i⊢;have e:=Y f;clear k f;go_in;go_wp2_with(first|(at_make;refine qt _ rfl _ _ 57 rfl 5 u (.int .u8 0) underlying57 m o s rfl _ _ _ _ b rfl rfl rfl rfl ng ib ?_;intro z q h aU;have x:=Y (i.out.ad h);have t:0+b<=(List.replicate b (Value.int .u8 0)).length:=by simp)|(refine rF _ rfl _ _ 57 57 rfl 5 underlying57 jQ a.heap.size 0 b b g b d rfl rfl (List.replicate b (.int .u8 0)) 5 q _ x.out t (wN _) ?_;intro y j r))
 go_ret;refine⟨a.heap.size,?_,?_,h.own r (a' _),a' _⟩
 .rw[<-e.out];rfl
 .have w:splice (List.replicate b (Value.int .u8 0)) 0 ((aC c).take b)=aC c:=by have n:(aC c).take b=aC c:=ml (by rw[pD,e.out];exact a' _);rw[n];unfold splice;simp[pD,e.out]
  rw[w]at j;exact j
theorem bo(a:aq)(b:aK):(al a b).all (·.oneCell')=true:=by simp[al,Value.oneCell']
structure hW(f:aq)(b:N)(c e a:Nat)(d:N):Prop where
 y:ag d c 5 (aC f.y).toArray
 u:ag d e 5 (aC f.u).toArray
 v:ag d a 5 (aC f.v).toArray
 S:V [] b d
 iG:b.heap.size<=c
 lH:b.heap.size<=e
 lI:b.heap.size<=a
 k':c≠e
 ac:c≠a
 dp:e≠a
def bb(a:aq)(b d c:Nat):aK:=⟨some ⟨b,0,none⟩,some ⟨d,0,none⟩,some ⟨c,0,none⟩,a.y.length,a.u.length,a.v.length⟩
def Zb(a:aq)(e:N)(f:Ending)(g:N):Prop:=∃c d b,f=.returned (al a (bb a c d b))/\hW a e c d b g
theorem aF.aP{a:Nat}(d:ag c a 5 (aC y).toArray):aF c (some ⟨a,0,none⟩) 1 y.length (aC y):=⟨by rw[pD,k3],λ_=>⟨_,rfl,λe f b=>by rw[ox,c',d.au];simpa using b⟩⟩
theorem hW.is{b:aq}{e d:N}{c:Nat}(a:hW b e c p t d):aT d b (bb b c p t):=⟨.aP a.y,.aP a.u,.aP a.v,a' _,a' _,a' _⟩
theorem Mo(c:aq)(g:aK)(f:c.Ok)(j:aT a c g):Calls prog 163 #[al c g] a (Zb c a):=by
 refine Mp λq o=>?_;have O:=Y (show c.y.length<=1048576 from tU);have za:=Y (show c.u.length<=1048576 from tV);have zh:=Y (show c.v.length<=1048576 from tW);have D:=Y j;clear f q o;go_in;go_wp2_with(first|(refine cx _ _ rfl rfl rfl rfl ?_;intro k zl h H q;have zv:=h.lt)|(refine cw _ _ rfl rfl bY rfl ?_;intro zt i m E o;replace h:=h.S E U))
 have zi:i.cell? ⟨k,0,none⟩=some (.int .i64 (c.w:Int)):=h.au 0;have zu:i.cell? ⟨k,1,none⟩=some (.int .i64 (c.h:Int)):=h.au 1;have zn:i.cell? ⟨k,2,none⟩=some (.slice g.a c.y.length g.cJ):=h.au 2;have zw:i.cell? ⟨k,3,none⟩=some (.slice g.b c.u.length g.cT):=h.au 3;have zo:i.cell? ⟨k,4,none⟩=some (.slice g.c c.v.length g.cm):=h.au 4;have t:=(H.ad E);have I:=Y ((j.y.ad t).drew);have x:=Y ((j.u.ad t).drew);have l:=Y ((j.v.ad t).drew);clear h j;have zs:=m.lt;refine rg [] [0,1,2,3,4,5,7,8,10,11,106,109,112,13,214] ?_;refine ax ?_;refine bN (E6 _ g.a g.cJ c.y I.out D.out.lG O.out) ?_;refine wS λA B z r zc=>?_;simp only[az];replace x:=Y (x.out.ad r);replace l:=Y (l.out.ad r);refine bN (E6 _ g.b g.cT c.u x.out D.out.kj za.out) ?_;refine tX λs G u p Q=>?_;simp only[az];replace l:=Y (l.out.ad p);refine bN (E6 _ g.c g.cm c.v l.out D.out.fO zh.out) ?_;refine tY λJ y C n P=>?_;replace m:=((m.drew.S r U).S p U).S n U;refine ax ?_;refine el λW F=>?_;refine cv (Q:=al c (bb c B G y)) aB m rfl (bo _ _) rfl rfl rfl rfl ?_;intro K zd w zq;refine F _ _ ?_;clear F W;refine ax ?_;go_wp2_with fail
 have zb:=(z.S p U).S n U;have ze:=u.S n U;have zk:=z.lt;have zp:=u.lt;have zm:i.heap.size<=B:=zc;have aU:=H.size;have zr:=(r.size:i.heap.size<=A.heap.size);have zj:=p.size;have L:V [] a K:=((((t.drew.ad r).ad p).ad n)).own w Z;exact bB (eH rfl aB zd rfl) ⟨B,G,y,rfl,⟨zb.S w aw,ze.S w aw,C.S w aw,L,Z,Z,Z,Z,Z,Z⟩⟩
def cL(a:aq)(b:Nat):aq:=⟨a.w,a.h/2,dy a.y (b*a.w) (2*a.w) a.w (a.h/2),dy a.u (b*a.w/2) a.w (a.w/2) (a.h/2/2),dy a.v (b*a.w/2) a.w (a.w/2) (a.h/2/2)⟩
theorem pF{e:af}{g h f:Nat}(d:∀b∈e,b<256):∀c,∀b∈dy e g h f c,b<256
 |0,b,a=>by simp[dy]at a
 |c+1,b,a=>by
  simp only[dy,bc]at a;rcases a with a|a
  .exact pF d c b a
  .exact d b (py (tc a))
theorem tZ{b a:Nat}(g:d<r)(c:b<=1)(i:J=2*a)(h:f=r*J):b*a+d*J+a<=f:=by have e:(d+1)*J<=r*J:=ix _ g;have j:b*a<=1*a:=ix _ c;rw[ia]at e;omega
structure aq.gQ(a:aq):Prop extends a.Ok where
 E7:a.h%4=0
theorem AZ{b:Nat}(c:q%2=0):b*q=q/2*(2*b):=by obtain⟨a,rfl⟩:∃a,q=2*a:=⟨q/2,Z⟩;rw[show 2*a/2=a from Z,wT b 2 a,wT a 2 b,eF b a]
theorem lJ{a:aq}{c:Nat}(b:a.gQ)(e:c<=1):(cL a c).Ok/\(cL a c).w=a.w/\(cL a c).h=a.h/2:=by
 have k:=b.gG;have l:=b.fH;have i:=b.kC;have m:=b.E7;have n:=b.iY;have o:=b.fr;have j:a.y.length=a.h/2*(2*a.w):=by rw[b.d',AZ b.he]
 have f:a.w/2*(a.h/2)=a.h/2/2*a.w:=by rw[AZ Z];congr 1;omega
 have g:c*a.w/2=c*(a.w/2):=by rcases(by omega:c=0\/c=1)with rfl|rfl<;>simp
 refine⟨⟨k,l,i,by show 2<=a.h/2;omega,by show a.h/2<=64;omega,by show a.h/2%2=0;omega,?_,?_,?_,pF b.gy _,pF b.fP _,pF b.hV _⟩,rfl,rfl⟩
 .show(dy _ _ _ _ _).length=a.w*(a.h/2);rw[pE _ _ _ _ _ (λh d=>tZ d e rfl j),eF]
 .show(dy _ _ _ _ _).length=a.w/2*(a.h/2/2);rw[pE _ _ _ _ _ (λh d=>by rw[g];exact tZ d e Z (by rw[b.eM,f])),eF]
 .show(dy _ _ _ _ _).length=a.w/2*(a.h/2/2);rw[pE _ _ _ _ _ (λh d=>by rw[g];exact tZ d e Z (by rw[b.aR,f])),eF]
def jR(a:aq)(e:N)(f:Ending)(g:N):Prop:=∃c d b,f=.returned (.tuple #[al a (bb a c d b),X 0])/\hW a e c d b g
theorem sc(c:aq)(j:aK)(g:Nat)(f:c.gQ)(b:g<=1)(ze:aT a c j):Calls prog 85 #[al c j,X g] a (jR (cL c g) a):=by
 have zae:=f.gG;have D:=f.fH;have zs:=f.fr;have zF:(c.h:Int)%4=0:=by have:=f.E7;omega
 have zw:=Y (qQ c j f.toOk);have zq:=Y ze;have zy:c.y.length=c.h/2*(2*c.w):=by rw[f.d',AZ f.he]
 have zt:c.w/2*(c.h/2)=c.h/2/2*c.w:=by rw[AZ (by have:=f.E7;omega)];congr 1;have:=f.kC;omega
 refine E8 λza W=>?_;have zJ:g*c.w<=1*64:=eL b D;have zr:g*c.w/2=g*(c.w/2):=by rcases(by omega:g=0\/g=1)with rfl|rfl<;>simp
 obtain⟨m,F⟩:∃m,m=g*c.w:=⟨_,rfl⟩;obtain⟨i,zf⟩:∃i,i=m/2:=⟨_,rfl⟩;obtain⟨aU,zi⟩:∃aU,aU=2*c.w:=⟨_,rfl⟩;obtain⟨h,L⟩:∃h,h=c.w/2:=⟨_,rfl⟩;obtain⟨l,K⟩:∃l,l=c.h/2:=⟨_,rfl⟩;obtain⟨k,O⟩:∃k,k=l/2:=⟨_,rfl⟩;have zG:=Y (show∀zm zp zo,Value.agg #[X (c.w:Int),X l,.slice (ab zm) (dy c.y m aU c.w l).length (dy c.y m aU c.w l).length,.slice (ab zp) (dy c.u i c.w h k).length (dy c.u i c.w h k).length,.slice (ab zo) (dy c.v i c.w h k).length (dy c.v i c.w h k).length]=.agg (al (cL c g) (bb (cL c g) zm zp zo)) by intro zm zp zo;unfold al bb cL;rw[<-F,<-zf,<-zi,<-L,<-K,<-O]);have zD:=Y (show cL c g=⟨c.w,l,dy c.y m aU c.w l,dy c.u i c.w h k,dy c.v i c.w h k⟩ by unfold cL;rw[<-F,<-zf,<-zi,<-L,<-K,<-O]);have w:=Y (show c.y.length<=4096/\1<=c.w/\c.w<=64/\l<=64/\aU<=128/\m<=8192/\∀d,d<l->m+d*aU+c.w<=c.y.length from⟨tU,Z,D,Z,Z,Z,λd zh=>by rw[F];exact tZ zh b zi (by rw[zy,K,zi])⟩);have H:=Y (show c.u.length<=4096/\1<=h/\h<=64/\k<=64/\c.w<=128/\i<=8192/\∀d,d<k->i+d*c.w+h<=c.u.length from⟨tV,Z,Z,Z,Z,Z,λd zh=>by rw[zf,F,zr,L];exact tZ zh b t' (by rw[f.eM,zt,O,K])⟩);have x:=Y (show c.v.length<=4096/\1<=h/\h<=64/\k<=64/\c.w<=128/\i<=8192/\∀d,d<k->i+d*c.w+h<=c.v.length from⟨tW,Z,Z,Z,Z,Z,λd zh=>by rw[zf,F,zr,L];exact tZ zh b t' (by rw[f.aR,zt,O,K])⟩);have zM:(g:Int)*(c.w:Int)=(m:Int):=by rw[F];push_cast;rfl
 have zad:(m:Int)/2=(i:Int):=Z;have zS:2*(c.w:Int)=(aU:Int):=Z;have z8:(c.w:Int)/2=(h:Int):=Z;have zX:(c.h:Int)/2=(l:Int):=Z;have zW:(l:Int)/2=(k:Int):=Z;have zV:m<=64:=Z;have zL:c.h<=64:=zs;clear f zy zt za W zJ zr F zf zi L K O;go_in;go_wp2_with(first|(refine cx _ _ rfl rfl rfl rfl ?_;intro zb z6 o zj zai;have zal:=o.lt)|(refine cw _ _ rfl rfl bY rfl ?_;intro zak zO q I zaa;replace o:=o.S I U)|(refine hA aB o rfl rfl rfl ?_))
 refine(zw.out _).mono ?_;rintro e E ⟨rfl,t⟩;have zaj:=q.lt;replace o:=o.S t U;replace q:=q.S t U;have zY:E.cell? ⟨zb,0,none⟩=some (.int .i64 (c.w:Int)):=o.au 0;have zP:E.cell? ⟨zb,1,none⟩=some (.int .i64 (c.h:Int)):=o.au 1;have zaf:E.cell? ⟨zb,2,none⟩=some (.slice j.a c.y.length j.cJ):=o.au 2;have zQ:E.cell? ⟨zb,3,none⟩=some (.slice j.b c.u.length j.cT):=o.au 3;have z':E.cell? ⟨zb,4,none⟩=some (.slice j.c c.v.length j.cm):=o.au 4;have zx:g=0\/g=1:=Z;have zk:((g:Int) !=0)=false\/(((g:Int) !=0)=true/\((g:Int) !=1)=false):=by rcases zx with rfl|rfl;exact .inl rfl;exact .inr ⟨rfl,rfl⟩
 have zH:=Y q;have zv:=Y ((zj.ad I).ad t);have P:=t.size;have zI:=Y ((((ze.y.ad zj).ad I).ad t).drew.drew);have zn:=Y ((((ze.u.ad zj).ad I).ad t).drew.drew);have zd:=Y ((((ze.v.ad zj).ad I).ad t).drew.drew);clear zx o q zj I t ze zw;rcases zk with zk|⟨zk,zR⟩
 all_goals
  go_wp2_with fail
  clear zF zk;refine rg [] [0,1,2,3,4,5,6] ?_;refine ax ?_;go_wp2_with fail
  have q:=zH.out.drew.drew;refine rg [] [0,1,2,3,4,5,6,7,8,9,10,11,13,14,15,16,17,18,19,20,21,22,23,24,26,27,28,29,30,31,32,33,34,35,36,37,112,125,138,39,240,41] ?_;refine ax ?_;refine bN (sb _ j.a j.cJ c.y m aU c.w l zI.out zq.out.lG w.out.1 w.out.2.1 w.out.2.2.1 w.out.2.2.2.1 w.out.2.2.2.2.1 w.out.2.2.2.2.2.1 w.out.2.2.2.2.2.2) ?_;refine wS λA B z r zc=>?_;simp only[az];replace zn:=Y (zn.out.ad r);replace zd:=Y (zd.out.ad r);refine bN (sb _ j.b j.cT c.u i c.w h k zn.out zq.out.kj H.out.1 H.out.2.1 H.out.2.2.1 H.out.2.2.2.1 H.out.2.2.2.2.1 H.out.2.2.2.2.2.1 H.out.2.2.2.2.2.2) ?_;refine tX λs G u p Q=>?_;simp only[az];replace zd:=Y (zd.out.ad p);refine bN (sb _ j.c j.cm c.v i c.w h k zd.out zq.out.fO x.out.1 x.out.2.1 x.out.2.2.1 x.out.2.2.2.1 x.out.2.2.2.2.1 x.out.2.2.2.2.2.1 x.out.2.2.2.2.2.2) ?_;refine tY λJ y C n P=>?_;replace q:=((q.S r U).S p U).S n U;refine ax ?_;refine el λzz zu=>?_;refine cv (Q:=al (cL c g) (bb (cL c g) B G y)) aB q rfl (bo _ _) rfl rfl rfl (zG.out B G y) ?_;intro zB zK zl zah;refine zu _ _ ?_;clear zu zz;refine ax ?_;go_wp2_with fail
  have zE:=(z.S p U).S n U;have zA:=u.S n U;have zZ:=z.lt;have zag:=u.lt;have z7:E.heap.size<=B:=zc;have zab:=(r.size:E.heap.size<=A.heap.size);have zac:=p.size;have zC:V [] a zB:=((((zv.out.drew.drew.ad r).ad p).ad n)).own zl Z;have aU:=zv.out.size;refine bB (eW rfl aB zK rfl) ⟨B,G,y,rfl,?_⟩;rw[zD.out];exact⟨zE.S zl aw,zA.S zl aw,C.S zl aw,zC,Z,Z,Z,Z,Z,Z⟩
def eO(a:aq)(b:Nat):af:=if b=4 then a.u else if b=5 then a.v else a.y
def nS(b:aq)(a:aK)(c:Nat):Qas:=if c=4 then .slice a.b b.u.length a.cT else if c=5 then .slice a.c b.v.length a.cm else .slice a.a b.y.length a.cJ
theorem E9(a:E:=by
 go_in;go_wp2_with(refine cx _ _ rfl rfl rfl rfl ?_;intro za W g m p;have zl:W.cell? ⟨za,2,none⟩=some (.slice b.a d.y.length b.cJ):=g.au 2;have q:W.cell? ⟨za,3,none⟩=some (.slice b.b d.u.length b.cT):=g.au 3;have o:W.cell? ⟨za,4,none⟩=some (.slice b.c d.v.length b.cm):=g.au 4)
 go_ret;exact⟨by rw[h.out];rfl,m⟩):E:=a
theorem Mq(d:aq)(b:aK)(c:Nat):Calls prog 226 #[al d b,X c] a λl i=>l=.returned (nS d b c)/\V [] a i:=by
 have n:True:=trivial;by_cases e:c=4
 .have h:=Y (show nS d b c=.slice b.b d.u.length b.cT by unfold nS;rw[ae e]);have k:((c:Int)==4)=true:=by rw[e];rfl
  clear e;exact E9
 have k:((c:Int)==4)=false:=by rw[sd];omega
 by_cases f:c=5
 .have h:=Y (show nS d b c=.slice b.c d.v.length b.cm by unfold nS;rw[M e,ae f]);have j:((c:Int)==5)=true:=by rw[f];rfl
  clear e f;exact E9
 .have h:=Y (show nS d b c=.slice b.a d.y.length b.cJ by unfold nS;rw[M e,M f]);have j:((c:Int)==5)=false:=by rw[sd];omega
  clear e f;exact E9
def oO(a:aq)(b d:Nat)(c:aq):aq:=⟨a.w,a.h,eX a.y (16*d*a.w+16*b) a.w 16 c.y 16,eX a.u (8*d*(a.w/2)+8*b) (a.w/2) 8 c.u 8,eX a.v (8*d*(a.w/2)+8*b) (a.w/2) 8 c.v 8⟩
structure aq.dN(a:aq):Prop extends a.Ok where
 eN:a.w=16
 ev:a.h=16
theorem E'{a:Nat}(g:a%16=0)(i:q%16=0)(f:z<a/16)(e:j<q/16)(b:Nat)(h:b<16):16*j*a+16*z+b*a+16<=a*q:=by
 have c:(16*j+b+1)*a<=q*a:=ix _ Z;have d:(16*j+b+1)*a=16*j*a+b*a+a:=by rw[nO,nO,A0]
 rw[d,eF q a]at c;omega
theorem Fa{a:Nat}(g:a%16=0)(i:q%16=0)(f:z<a/16)(e:j<q/16)(b:Nat)(h:b<8):8*j*(a/2)+8*z+b*(a/2)+8<=a/2*(q/2):=by
 have c:(8*j+b+1)*(a/2)<=q/2*(a/2):=ix _ Z;have d:(8*j+b+1)*(a/2)=8*j*(a/2)+b*(a/2)+a/2:=by rw[nO,nO,A0]
 rw[d,eF (q/2)]at c;omega
theorem se{e f:af}{h i g:Nat}(ak:∀a∈e,a<256)(d:∀a∈f,a<256):∀c,∀a∈eX e h i g f c,a<256
 |0,a,b=>ak a b
 |c+1,a,b=>by
  simp only[eX,bc]at b;rcases b with(b|b)|b
  .exact se ak d c a (tc b)
  .exact d a (tc (py b))
  .exact se ak d c a (py b)
theorem aq.dN.len{b:aq}(a:b.dN):b.y.length=256/\b.u.length=64/\b.v.length=64:=by refine⟨by rw[a.d',a.eN,a.ev],by rw[a.eM,a.eN,a.ev],by rw[a.aR,a.eN,a.ev]⟩
theorem A1{a c:aq}(f:a.dd)(b:c.dN)(E:z<a.w/16)(F:j<a.h/16):(oO a z j c).dd:=by
 obtain⟨h,e,g⟩:=b.len;refine⟨⟨f.gG,f.fH,f.kC,f.iY,f.fr,f.he,?_,?_,?_,se f.gy b.gy _,se f.fP b.fP _,se f.hV b.hV _⟩,f.eN,f.ev⟩
 .show(eX _ _ _ _ _ _).length= _;rw[ms _ _ _ _ _ _ (λd w=>A2) (by rw[h];decide)];exact f.d'
 .show(eX _ _ _ _ _ _).length= _;rw[ms _ _ _ _ _ _ (λd w=>A3) (by rw[e];decide)];exact f.eM
 .show(eX _ _ _ _ _ _).length= _;rw[ms _ _ _ _ _ _ (λd w=>A4) (by rw[g];decide)];exact f.aR
theorem aF.off{h:Nat}{i:Qam}(d:aF c zm 1 f i)(j:c.heap.size<=h):vO zm f [h]:=λb a e g=>by have:=d.lt R b a e;simp at g;omega
theorem Mr(c k:aq)(zq n:aK)(h j:Nat)(f:c.dd)(G:k.dN)(E:h<c.w/16)(F:j<c.h/16)(zV:aT a c zq)(zW:aT a k n):Calls prog 124 #[al c zq,X h,X j,al k n] a (jR (oO c h j k) a):=by
 obtain⟨zX,zU,zZ⟩:=G.len;have zbx:=f.gG;have D:=f.fH;have zs:=f.fr;have zm:=Y (λa=>E0 c zq f a h j E F);have zad:=Y (λa=>qQ k n G.toOk a);have zaD:=Y (λa=>Mo a c zq f.toOk);have zv:=Y (λa=>E1 a c.w h j D Z Z);have zay:=Y zV;have r:=Y zW;refine E8 λza W=>?_;refine Fb λze zd=>?_;have zG:ck (∀d,d<16->16*j*c.w+16*h+d*c.w+16<=c.y.length):=λd w=>A2;have zF:ck (∀d,d<8->8*j*(c.w/2)+8*h+d*(c.w/2)+8<=c.u.length):=λd w=>A3;have zt:ck (∀d,d<8->8*j*(c.w/2)+8*h+d*(c.w/2)+8<=c.v.length):=λd w=>A4;have zM:ck (c.y.length<=4096/\c.u.length<=4096/\c.v.length<=4096):=⟨tU,tV,tW⟩;have P:=Y G.len;have zh:ck (oO c h j k=⟨c.w,c.h,eX c.y (16*j*c.w+16*h) c.w 16 k.y 16,eX c.u (8*j*(c.w/2)+8*h) (c.w/2) 8 k.u 8,eX c.v (8*j*(c.w/2)+8*h) (c.w/2) 8 k.v 8⟩):=rfl;have zap:=Y (A1 f G E F);have zbv:(k.w:Int)=16:=by have:=G.eN;omega
 have zaW:(k.h:Int)=16:=by have:=G.ev;omega
 refine Ms λx zb q H m K=>?_;rw[<-zb]at zv zG zh;rw[<-K]at zv zF zt zh H;rw[<-H]at zv zF zt zh;have za6:x<=8192:=Z;have za5:q<=8192:=by rw[H,K];omega
 have zbn:m<=32:=Z;clear f G zV zW E F zX zU zZ za W ze zd zb H K;refine kD λzaq zai zaT zaN=>?_;go_in;go_wp2_with(first|(clear zaq;refine cx _ (al c zq) rfl rfl rfl rfl ?_;intro zD zbi g zY zX;have zZ:=g.lt)|(clear zai;refine cx _ (al k n) rfl rfl rfl rfl ?_;intro I zaY i zH zU;replace g:=g.S zH U;have za8:=i.lt)|(clear zaT;refine cw _ _ rfl rfl bY rfl ?_;intro zS za1 b zB zbh;replace g:=g.S zB U;replace i:=i.S zB U;have zbl:=b.lt)|(clear zaN;refine hA aB g rfl rfl rfl ?_))
 refine Fc ?_;clear g i;intro t o g i;replace b:=b.S o U;have zav:True:=trivial;go_wp2_with(clear zav;refine mq aB i rfl rfl rfl ?_)
 refine(zad.out _).mono ?_;rintro e zj ⟨rfl,zi⟩;replace g:=g.S zi U;replace i:=i.S zi U;replace b:=b.S zi U;have zaz:zj.cell? ⟨I,0,none⟩=some (.int .i64 (k.w:Int)):=i.au 0;have zag:zj.cell? ⟨I,1,none⟩=some (.int .i64 (k.h:Int)):=i.au 1;have zR:=Y ((((zY.ad zH).ad zB).ad o).ad zi);have zbr:zD<zj.heap.size:=g.lt;have zaX:I<zj.heap.size:=i.lt;have zbd:zS<zj.heap.size:=b.lt;have zaS:True:=trivial;go_wp2_with(clear zaS;refine hA aB g rfl rfl rfl ?_)
 refine(zaD.out _ (zay.out.ad zR.out)).mono ?_;rintro e zK ⟨u,z,C,rfl,p⟩;have zas:=Y (zR.out.ad p.S);replace g:=g.S p.S U;replace i:=i.S p.S U;replace b:=b.S p.S U;have za0:=zR.out.size;have zc:=Y p;have zba:=p.iG;have za9:=p.lH;have za4:=p.lI;have zbe:=p.y.lt;have zbs:=p.u.lt;have zbt:=p.v.lt;clear zaz zag p zY zH zB o zi;have zbu:=b.lt;refine fE λzac zaK=>?_;have zQ:zK.cell? ⟨zD,0,none⟩=some (.int .i64 (c.w:Int)):=g.au 0;go_wp2_with(first|(clear zac;refine cw _ _ rfl rfl bY rfl ?_;intro zx zbw zT zl zaG;replace g:=g.S zl U;replace i:=i.S zl U;replace b:=b.S zl U;have zbC:=zT.lt)|(clear zaK;refine cv (Q:=al c (bb c u z C)) aB zT rfl (bo _ _) rfl rfl rfl rfl ?_;intro zal l zE zbB;replace g:=g.S zE aw;replace i:=i.S zE aw;replace b:=b.S zE aw;clear zQ;have zQ:zal.cell? ⟨zD,0,none⟩=some (.int .i64 (c.w:Int)):=g.au 0))
 refine(zv.out _).mono ?_;rintro e zA ⟨rfl,zf⟩;replace g:=g.S zf U;replace i:=i.S zf U;replace b:=b.S zf U;replace l:=l.S zf U;have zbq:=zl.size;have zbj:=zf.size;have zbD:zD<zA.heap.size:=g.lt;have za3:I<zA.heap.size:=i.lt;have zbg:zS<zA.heap.size:=b.lt;have zbo:zx<zA.heap.size:=l.lt;refine nh λzaL z7 zaU hg zaI=>?_;clear zQ;go_wp2_with(first|(clear zaL;refine cw _ _ rfl rfl mr rfl ?_;intro za7 zbb zw zp zbp;replace g:=g.S zp U;replace i:=i.S zp U;replace b:=b.S zp U;replace l:=l.S zp U;have zaZ:=zw.lt)|(clear z7;refine cw _ _ rfl rfl mr rfl ?_;intro zbA zaV zy Q zbc;replace g:=g.S Q U;replace i:=i.S Q U;replace b:=b.S Q U;replace l:=l.S Q U;replace zw:=zw.S Q U;have zbm:=zy.lt)|(clear zaU;refine cv (Q:=hb x c.w 16 16) gd zw rfl (k9 _ _ _ _) rfl rfl rfl rfl ?_;intro zbE zO O zbk;replace g:=g.S O aw;replace i:=i.S O aw;replace b:=b.S O aw;replace l:=l.S O aw;replace zy:=zy.S O aw)|(clear hg;refine cv (Q:=hb q m 8 8) gd zy rfl (k9 _ _ _ _) rfl rfl rfl rfl ?_;intro L B J zbz;replace g:=g.S J aw;replace i:=i.S J aw;replace b:=b.S J aw;replace l:=l.S J aw;replace zO:=zO.S J aw;have zat:=Y (show V [] zK L from((((((zl.own zE zaG).ad zf).ad zp).ad Q).own O Z).own J Z));have zaO:L.cell? ⟨zx,2,none⟩=some (.slice (ab u) c.y.length c.y.length):=l.au 2;have zaB:L.cell? ⟨I,2,none⟩=some (.slice n.a k.y.length n.cJ):=i.au 2)|(clear zaI;refine hA gd zO rfl rfl rfl ?_))
 have zu:=(zat.out:V [] zK L);have zax:=zc.out.y.S zu U;have zL:=zc.out.u.S zu U;have zk:=zc.out.v.S zu U;have zC:V [] a L:=zas.out.ad zu;have zam:=r.out.y.ad zC;have zI:=r.out.u.ad zC;have zr:=r.out.v.ad zC;have zaH:=r.out.y.off (h:=u) Z;have zar:=r.out.u.off (h:=z) Z;have zaP:=r.out.v.off (h:=C) Z;have zaJ:=r.out.u.off (h:=u) Z;have zaw:=r.out.v.off (h:=u) Z;have zao:=r.out.v.off (h:=z) Z;have zau:=zc.out.k';have z8:=zc.out.ac;have zaj:=zc.out.dp;refine(wR L u c.y.length c.y n.a n.cJ k.y x c.w 16 16 zax (zam) (zaH) (a' _) (r.out.lG) zM.out.1 Z Z Z Z Z zG.out (by rw[P.out.1];omega)).mono ?_;rintro e zN ⟨rfl,zn,s⟩;replace g:=g.S s aw;replace i:=i.S s aw;replace b:=b.S s aw;replace l:=l.S s aw;replace B:=B.S s aw;replace zL:=zL.S s aw;replace zk:=zk.S s aw;replace zI:=zI.S s zaJ;replace zr:=zr.S s zaw;have zo:True:=trivial;have zaE:zN.cell? ⟨zx,3,none⟩=some (.slice (ab z) c.u.length c.u.length):=l.au 3;have zak:zN.cell? ⟨I,3,none⟩=some (.slice n.b k.u.length n.cT):=i.au 3;clear zaO zaB;go_wp2_with(clear zo;refine hA gd B rfl rfl rfl ?_)
 refine(wR zN z c.u.length c.u n.b n.cT k.u q m 8 8 zL (zI) (zar) (a' _) (r.out.kj) zM.out.2.1 Z Z Z Z Z zF.out (by rw[P.out.2.1];omega)).mono ?_;rintro e zJ ⟨rfl,zP,y⟩;replace g:=g.S y aw;replace i:=i.S y aw;replace b:=b.S y aw;replace l:=l.S y aw;replace B:=B.S y aw;replace zn:=zn.S y aw;replace zk:=zk.S y aw;replace zr:=zr.S y zao;have zo:True:=trivial;clear zaE zak;have zan:zJ.cell? ⟨zx,4,none⟩=some (.slice (ab C) c.v.length c.v.length):=l.au 4;have zab:zJ.cell? ⟨I,4,none⟩=some (.slice n.c k.v.length n.cm):=i.au 4;go_wp2_with(clear zo;refine hA gd B rfl rfl rfl ?_)
 refine(wR zJ C c.v.length c.v n.c n.cm k.v q m 8 8 zk (zr) (zaP) (a' _) (r.out.fO) zM.out.2.2 Z Z Z Z Z zt.out (by rw[P.out.2.2];omega)).mono ?_;rintro e za2 ⟨rfl,zaR,A⟩;replace g:=g.S A aw;replace i:=i.S A aw;replace b:=b.S A aw;replace l:=l.S A aw;replace B:=B.S A aw;replace zn:=zn.S A aw;replace zP:=zP.S A aw;clear zan zab;refine fE λzo zah=>?_;have zby:=zap.out;have zaf:=Y (show al c (bb c u z C)=al (oO c h j k) (bb (oO c h j k) u z C) by have z6:=ms c.y x c.w 16 k.y 16 zG.out (by rw[P.out.1];omega);have zaM:=ms c.u q m 8 k.u 8 zF.out (by rw[P.out.2.1];omega);have zae:=ms c.v q m 8 k.v 8 zt.out (by rw[P.out.2.2];omega);rw[zh.out];unfold al bb;simp only[z6,zaM,zae]);go_wp2_with(first|(clear zo;refine hA aB l rfl rfl rfl ?_)|(clear zah;refine cv (Q:=al c (bb c u z C)) aB b rfl (bo _ _) rfl rfl rfl rfl ?_;intro zaa zaF zz zbf))
 refine bB (eW rfl aB zaF rfl) ⟨u,z,C,by rw[zaf.out];rfl,?_⟩;have zaQ:V [] a zaa:=(((zC.own s Z).own y Z).own A Z).own zz Z;rw[zh.out];exact⟨zn.S zz aw,zP.S zz aw,zaR.S zz aw,zaQ,Z,Z,Z,zau,z8,zaj⟩
theorem a64(a:aj):bT prog 230 (an .i64 64 a).size:=⟨_,underlying230,rfl,qC a⟩
def sf(b:aq)(c d a:Nat)(e:Bool):af:=dy (eO b a) (e9 b.w c d a e).1 (e9 b.w c d a e).2 8 8
def fQ(e:aq)(a b d:Nat)(f:Bool)(c:Nat):Int:=((sf e a b d f).getD c 0:Int)
theorem pG{c:aq}(d:Bool)(b:c.dd)(h:z<c.w/16)(e:j<c.h/16)(m:f<6):(e9 c.w z j f d).1<=8192/\(e9 c.w z j f d).2<=128/\∀a,a<8->(e9 c.w z j f d).1+a*(e9 c.w z j f d).2+8<=(eO c f).length:=by
 have D:=b.fH;have l:=b.fr;refine Fb λze zd=>?_;have n:f/2*c.w<=2*64:=eL Z D;have o:f/2*8*c.w<=16*64:=eL Z D;unfold e9 eO;by_cases k:4<=f
 .rw[ae k];refine⟨by show 8*j*(c.w/2)+8*z<= _;omega,by show c.w/2<= _;omega,λa g=>?_⟩;have:=Fa b.eN b.ev h e a g;by_cases i:f=4
  .rw[ae i,b.eM];exact this
  .rw[M i,ae Z,b.aR];exact this
 .rw[M k,M (show¬f=4 from Z),M (show¬f=5 from Z)];cases d
  .refine⟨by show 16*j*c.w+16*z+f%2*8+f/2*8*c.w<= _;omega,by show c.w<= _;omega,λa g=>?_⟩;have:=E' b.eN b.ev h e (f/2*8+a) Z;rw[nO]at this;rw[b.d'];show 16*j*c.w+16*z+f%2*8+f/2*8*c.w+a*c.w+8<= _;omega
  .refine⟨by show 16*j*c.w+16*z+f%2*8+f/2*c.w<= _;omega,by show 2*c.w<= _;omega,λa g=>?_⟩;have:=E' b.eN b.ev h e (f/2+2*a) Z;rw[nO,show 2*a*c.w=a*(2*c.w)from by rw[eF 2 a,wy]]at this;rw[b.d'];show 16*j*c.w+16*z+f%2*8+f/2*c.w+a*(2*c.w)+8<= _;omega
theorem wU{c:aq}(f:c.Ok)(a:Nat):(eO c a).length<=4096/\∀b∈eO c a,b<256:=by
 refine Mp λe d=>?_;unfold eO;split
 .exact⟨tV,f.fP⟩
 .split
  .exact⟨tW,f.hV⟩
  .exact⟨tU,f.gy⟩
theorem Zc{a:aq}(b:Bool)(c:a.dd)(e:z<a.w/16)(g:j<a.h/16)(d:f<6):(sf a z j f b).length=64:=pE _ _ _ _ _ (pG b c e g d).2.2
theorem wV{b:aq}(h:b.Ok)(c d a:Nat)(e:Bool)(g:Nat):0<=fQ b c d a e g/\fQ b c d a e g<=255:=by
 unfold fQ;rcases jn g (sf b c d a e).length with f|f
 .have:=pF (g:=(e9 b.w c d a e).1) (h:=(e9 b.w c d a e).2) (f:=8) (wU h a).2 8 _ (la (l:=sf b c d a e) f);rw[b9,cu f];simp only[lE];omega
 .rw[b9,fN f];simp
theorem Fe(c:aq)(t:aK)(l m h:Nat)(i:Bool)(f:c.dd)(q:l<c.w/16)(u:m<c.h/16)(w:h<6)(n:aT a c t):Calls prog 189 #[al c t,X l,X m,X h,.bool i] a λe za=>e=.returned (.tuple #[an .i64 64 (fQ c l m h i),X 0])/\V [] a za:=by
 refine Mt λW F=>?_;have zY:=Y n;have D:=Y (show(eO c h).length<=4096/\(e9 c.w l m h i).2<=128/\(e9 c.w l m h i).1<=8192/\∀d,d<8->(e9 c.w l m h i).1+d*(e9 c.w l m h i).2+8<=(eO c h).length from⟨(wU f.toOk h).1,(pG i f q u w).2.1,(pG i f q u w).1,(pG i f q u w).2.2⟩);have zn:=Y (Zc i f q u w);have K:ck (sf c l m h i=dy (eO c h) (e9 c.w l m h i).1 (e9 c.w l m h i).2 8 8):=rfl;obtain⟨zB,zz,zm,zj,zb⟩:∃zd zf,nS c t h=.slice zd (eO c h).length zf/\(∀C,aT C c t->aF C zd 1 (eO c h).length (aC (eO c h)))/\(eO c h).length<=zf:=by
  unfold nS eO;split
  .exact⟨_,_,rfl,λC n=>n.u,n.kj⟩
  .split
   .exact⟨_,_,rfl,λC n=>n.v,n.fO⟩
   .exact⟨_,_,rfl,λC n=>n.y,n.lG⟩
 have zM:=Y (λa=>show Calls prog 226 #[al c t,X h] a λe za=>e=.returned (.slice zB (eO c h).length zz)/\V [] a za by have:=Mq a c t h;rwa[zm]at this);have zv:=Y (zj _ n);have zO:=Y zb;obtain⟨zL,ze⟩:∃k,k=(e9 c.w l m h i).1:=⟨_,rfl⟩;obtain⟨zF,zl⟩:∃k,k=(e9 c.w l m h i).2:=⟨_,rfl⟩;rw[<-ze,<-zl]at F D K;have zE:ck (∀k∈sf c l m h i,k<256):=pF (wU f.toOk h).2 8;have zP:(h:Int)<6:=Z;clear f q u w n zm zj zb ze zl;go_in;go_wp2_with(first|(refine cx _ (al c t) rfl rfl rfl rfl ?_;intro zN zi g E zab;have zU:=g.lt;have z8:a.heap.size<=zi.heap.size:=E.size)|(refine cw _ (an .i64 64 λ_=>0) rfl rfl qD rfl ?_;intro zr zc j B zak;replace g:=g.S B U;have zaa:=j.lt;have zS:zi.heap.size<=zc.heap.size:=B.size)|(refine hA aB g rfl rfl rfl ?_))
 refine(W.out _).mono ?_;rintro e zp ⟨rfl,y⟩;replace g:=g.S y U;replace j:=j.S y U;have zX:zc.heap.size<=zp.heap.size:=y.size;go_wp2_with(refine cw _ (an .i64 64 λ_=>0) rfl rfl qD rfl ?_;intro A L o z z1;replace g:=g.S z U;replace j:=j.S z U;have zag:=o.lt;have zR:zp.heap.size<=L.heap.size:=z.size)
 have zA:L.cell? ⟨zN,0,none⟩=some (.int .i64 (c.w:Int)):=g.au 0;refine rg [] [0,1,3,4,5,6,7,8,12,102,109,110,11] ?_;refine iZ aB rfl rfl rfl g.drew ?_;refine ax ?_;refine bN (zM.out _) ?_;refine A5 λx s=>?_;replace g:=g.drew.S s U;replace j:=j.drew.S s U;replace o:=o.drew.S s U;have zQ:L.heap.size<=x.heap.size:=s.size;refine bN (F.out _) ?_;refine A6 λH p=>?_;replace g:=g.S p U;replace j:=j.S p U;replace o:=o.S p U;have zad:x.heap.size<=H.heap.size:=p.size;refine bN (sb _ _ _ (eO c h) zL zF 8 8 (zv.out.ad (((((E.ad B).ad y).ad z).drew.ad s).ad p)) zO.out D.out.1 R R R D.out.2.1 D.out.2.2.1 D.out.2.2.2) ?_;rintro e O ⟨zo,rfl,dp,r,z'⟩;refine⟨_,rfl,r,?_⟩;replace g:=g.S r U;replace j:=j.S r U;replace o:=o.S r U;have z6:H.heap.size<=O.heap.size:=r.size;refine ax ?_;have zw:ck (V [] a O):=((((((E.ad B).ad y).ad z).drew.ad s).ad p).ad r);have zD:=Y dp;have zI:=Y (K.out▸zn.out);have zai:A≠zo:=Z;have zac:zr≠A:=Z;clear E B y z s p r g dp zA;rw[zI.out];rw[<-rG (h:=fQ c l m h i)]at o;have zt:=Y j;have zG:=Y o;clear j o;go_wp2_with fail
 go_loopw [41] (λJ wr=>∃d:Nat,d<=64/\J=X d/\Hid (V [A] O wr)/\Hid (ag wr A 230 (an .i64 64 (c3 d (fQ c l m h i))))) (λJ _=>64-(intOf J).toNat)
 .exact⟨0,Z,rfl,Y (V.refl _ _),zG⟩
 .obtain⟨d,zah,rfl,I,G⟩:=hrel;by_cases P:d<64
  .have z7:(d:Int)<64:=Z;obtain⟨k,q⟩:∃k,(sf c l m h i)[d]? =some k:=⟨_,cu (by rw[zn.out];exact P)⟩;have zk:fQ c l m h i d=(k:Int):=by unfold fQ;rw[b9,q];rfl
   have zaf:=zE.out k (bS q);have zq:=zD.out.S I.out aw;have zae:wr.cell? ⟨zo,d,none⟩=some (.int .u8 (k:Int)):=by rw[zq.au];rw[<-K.out];simp[aC,q]
   have zZ:wr.cell? ⟨A,d,none⟩=some (.int .i64 (c3 d (fQ c l m h i) d)):=by rw[G.out.au,dw P]
   have zV:=G.out.eA d;obtain⟨Q,aU⟩:=G.out.hc d (X k);rw[ph P zk]at Q;have zs:=Y Q;have zx:=Y (I.out.same aU);clear q zk zq Q aU;go_wp2_with fail
   exact A7 zx zs
  .have zC:d=64:=Z;subst zC;have zh:=G.out;rw[oE (a' _)]at zh;have zy:=zt.out.S I.out aw;refine fE λzK zu=>?_;go_wp2_with(first|(clear zK;refine hA (a64 _) zh rfl rfl rfl ?_)|(clear zu;refine cv (Q:=an .i64 64 (fQ c l m h i)) (a64 _) zy tq e6 rfl rfl rfl rfl ?_;intro zW zH zJ zaj))
   exact bB (eW rfl (a64 _) zH rfl) ⟨rfl,(zw.out.own I.out Z).own zJ Z⟩
def ua(v:Int):Nat:=(min (max v 0) 255).toNat
def jS(c:aj)(a:Nat):af:=(List.range a).map λb=>ua (c b)
theorem pH(b:aj)(a:Nat):(jS b a).length=a:=by simp[jS]
theorem Zd(b:aj)(a:Nat):jS b (a+1)=jS b a++[ua (b a)]:=by simp[jS,mm]
theorem Ze(c:aj)(b:Nat):∀v∈jS c b,v<256:=λv a=>by simp only[jS,ca]at a;obtain⟨d,_,rfl⟩:=a;unfold ua;omega
def qS(a:aq)(c:Nat)(b:af):aq:=if c=4 then⟨a.w,a.h,a.y,b,a.v⟩else if c=5 then⟨a.w,a.h,a.y,a.u,b⟩else⟨a.w,a.h,b,a.u,a.v⟩
def i6(b:aq)(c d a:Nat)(e:Bool)(f:aj):aq:=qS b a (eX (eO b a) (e9 b.w c d a e).1 (e9 b.w c d a e).2 8 (jS f 64) 8)
def lK(a c d b:Nat):Nat:=if a=4 then d else if a=5 then b else c
theorem Zf{b:Nat}(c:b<r)(d:p<r)(a:t<r):lK f b p t<r:=Mu
theorem Zg{b:Nat}(c:r<=b)(d:r<=p)(a:r<=t):r<=lK f b p t:=Mu
theorem hW.A8{f:aq}{g:N}{e:Nat}(a:hW f g e p t c)(d:Nat)(b:V [] c n):ag n (lK d e p t) 5 (aC (eO f d)).toArray:=by
 unfold lK eO;split
 .exact a.u.S b U
 .split
  .exact a.v.S b U
  .exact a.y.S b U
theorem Zh{b:aq}(a:y.length=(eO b f).length)(d g c:Nat):al b (bb b d g c)=al (qS b f y) (bb (qS b f y) d g c):=by
 unfold qS eO at*;split
 .rename_i e;rw[ae e]at a;simp only[al,bb,a]
 .rename_i e;rw[M e]at a;split
  .rename_i e;rw[ae e]at a;simp only[al,bb,a]
  .rename_i e;rw[M e]at a;simp only[al,bb,a]
theorem hW.Zi{u:aq}{o:N}{k:Nat}(a:hW u o k p t c)(n:V [] c W)(b:V [lK f k p t] W O)(g:ag O (lK f k p t) 5 (aC y).toArray){l:N}(d:l.heap.size<=o.heap.size)(m:V [] l O):hW (qS u f y) l k p t O:=by
 have h:=a.k';have j:=a.ac;have i:=a.dp;have q:=a.y.S n U;have r:=a.u.S n U;have s:=a.v.S n U;unfold lK at b g;unfold qS;split
 .rename_i e;simp only[ae e]at b g;exact⟨q.S b (by simpa using h),g,s.S b (by simpa using i.symm),m,b7 d a.iG,b7 d a.lH,b7 d a.lI,h,j,i⟩
 .rename_i e;simp only[M e]at b g;split
  .rename_i e;simp only[ae e]at b g;exact⟨q.S b (by simpa using j),r.S b (by simpa using i),g,m,b7 d a.iG,b7 d a.lH,b7 d a.lI,h,j,i⟩
  .rename_i e;simp only[M e]at b g;exact⟨g,r.S b (by simpa using h.symm),s.S b (by simpa using j.symm),m,b7 d a.iG,b7 d a.lH,b7 d a.lI,h,j,i⟩
theorem hW.on{f:aq}{e b:Nat}(a:hW f zt e p t c)(d:V [b] c n)(h:zt.heap.size<=b)(i:b≠e)(j:b≠p)(g:b≠t):hW f zt e p t n:=⟨a.y.S d (by simpa using i.symm),a.u.S d (by simpa using j.symm),a.v.S d (by simpa using g.symm),a.S.own d h,a.iG,a.lH,a.lI,a.k',a.ac,a.dp⟩
theorem Zj{b:aq}(g:Bool)(h:aj)(a:b.dd)(k:z<b.w/16)(l:j<b.h/16)(i:f<6):(i6 b z j f g h).dd/\(i6 b z j f g h).w=b.w/\(i6 b z j f g h).h=b.h:=by
 have d:=ms (eO b f) (e9 b.w z j f g).1 (e9 b.w z j f g).2 8 (jS h 64) 8 (pG g a k l i).2.2 (by rw[pH];decide);have c:=se (h:=(e9 b.w z j f g).1) (i:=(e9 b.w z j f g).2) (g:=8) (wU a.toOk f).2 (Ze h 64) 8;unfold i6 qS;unfold eO at d c;unfold eO;split
 .rename_i e;simp only[ae e]at d c⊢;exact⟨⟨⟨a.gG,a.fH,a.kC,a.iY,a.fr,a.he,a.d',d.trans a.eM,a.aR,a.gy,c,a.hV⟩,a.eN,a.ev⟩,by first|trivial|rfl,by first|trivial|rfl⟩
 .rename_i e;simp only[M e]at d c⊢;split
  .rename_i e;simp only[ae e]at d c⊢;exact⟨⟨⟨a.gG,a.fH,a.kC,a.iY,a.fr,a.he,a.d',a.eM,d.trans a.aR,a.gy,a.fP,c⟩,a.eN,a.ev⟩,by first|trivial|rfl,by first|trivial|rfl⟩
  .rename_i e;simp only[M e]at d c⊢;exact⟨⟨⟨a.gG,a.fH,a.kC,a.iY,a.fr,a.he,d.trans a.d',a.eM,a.aR,c,a.fP,a.hV⟩,a.eN,a.ev⟩,by first|trivial|rfl,by first|trivial|rfl⟩
theorem A9{p:Qak}{q:Qal}{b:Qax}{a:Act}{f:N}{g:Qaa}{e m:Qau}{s:Array TypeId}(d c k:Int)(o:(if c<d then c else d)=k)(i:b.guard=none)(n:b.op=.call {callee:=.builtin .min,args:=#[e,m],argTypes:=s})(l:a.eval e=X d)(j:a.eval m=X c) (h:wpList prog p g q (a.put b.dst (X k)) f):wpList prog p g (b::q) a f:=by exact KX
theorem lL{p:Qak}{q:Qal}{b:Qax}{a:Act}{g:N}{i:Qaa}{f o:Qau}{r:Array TypeId}(e c m:Int)(n:(if c>e then c else e)=m)(s:b.guard=none)(l:b.op=.call {callee:=.builtin .max,args:=#[f,o],argTypes:=r})(k:a.eval f=X e)(h:a.eval o=X c) (d:wpList prog p i q (a.put b.dst (X m)) g):wpList prog p i (b::q) a g:=by refine jq s λt j=>?_;exact Ew
theorem Zk(c:aq)(t:aK)(l m h:Nat)(i:Bool)(o:aj)(f:c.dd)(q:l<c.w/16)(u:m<c.h/16)(w:h<6)(zO:aT a c t):Calls prog 191 #[al c t,X l,X m,X h,.bool i,an .i64 64 o] a (jR (i6 c l m h i o) a):=by
 obtain⟨zav,zU,z8,zY,G⟩:=k8 kB;refine Mt λW F=>?_;have zas:=Y (λa=>Mo a c t f.toOk);have zap:=Y zO;have zj:=Y (show(eO c h).length<=4096/\(e9 c.w l m h i).2<=128/\(e9 c.w l m h i).1<=8192/\∀d,d<8->(e9 c.w l m h i).1+d*(e9 c.w l m h i).2+8<=(eO c h).length from⟨(wU f.toOk h).1,(pG i f q u w).2.1,(pG i f q u w).1,(pG i f q u w).2.2⟩);have zs:ck (i6 c l m h i o=qS c h (eX (eO c h) (e9 c.w l m h i).1 (e9 c.w l m h i).2 8 (jS o 64) 8)):=rfl;have zG:=Y (ms (eO c h) (e9 c.w l m h i).1 (e9 c.w l m h i).2 8 (jS o 64) 8 (pG i f q u w).2.2 (by rw[pH];decide));have zaG:=Y (λza zi ze a=>show Calls prog 226 #[al c (bb c za zi ze),X h] a λe zp=>e=.returned (.slice (some ⟨lK h za zi ze,0,none⟩) (eO c h).length (eO c h).length)/\V [] a zp by
  have:=Mq a c (bb c za zi ze) h;have e:nS c (bb c za zi ze) h=.slice (some ⟨lK h za zi ze,0,none⟩) (eO c h).length (eO c h).length:=by
   unfold nS lK eO bb;split
   .rfl
   .split<;>rfl
  rwa[e]at this)
 obtain⟨zA,zE⟩:∃o,o=(e9 c.w l m h i).1:=⟨_,rfl⟩;obtain⟨zx,zN⟩:∃o,o=(e9 c.w l m h i).2:=⟨_,rfl⟩;rw[<-zE,<-zN]at F zj zs zG;have zah:=Y (λ(z:Nat) a zk ak zay zaE=>show Calls prog 126 #[.slice (ab zk) (eO c h).length (eO c h).length,hb zA zx 8 8,.slice (ab z) 64 64] a λe zp=>e=.returned (.tuple #[])/\ag zp zk 5 (aC (eX (eO c h) zA zx 8 (jS o 64) 8)).toArray/\V [zk] a zp by have:=wR a zk (eO c h).length (eO c h) (some ⟨z,0,none⟩) 64 (jS o 64) zA zx 8 8 ak zay zaE (a' _) (by rw[pH];exact a' _) zj.out.1 R R R zj.out.2.1 zj.out.2.2.1 zj.out.2.2.2 (by rw[pH];decide);rwa[pH]at this);have zaL:(h:Int)<6:=Z;clear f q u w zO zE zN;go_in;refine kD λzaf z7 zaI zaD=>?_;go_wp2_with(first|(clear zaf;refine cx _ (al c t) rfl rfl rfl rfl ?_;intro zR zK g zq zbh;have zaU:=g.lt;have zbb:a.heap.size<=zK.heap.size:=zq.size)|(clear z7;refine cx _ (an .i64 64 o) rfl rfl rfl rfl ?_;intro zaK zD j zn zbo;replace g:=g.S zn U;have zbf:=j.lt;have zaR:zK.heap.size<=zD.heap.size:=zn.size)|(clear zaI;refine cw _ _ rfl rfl bY rfl ?_;intro zad zz k zc zaZ;replace g:=g.S zc U;replace j:=j.S zc U;have zaO:=k.lt;have za1:zD.heap.size<=zz.heap.size:=zc.size)|(clear zaD;refine hA aB g rfl rfl rfl ?_))
 refine Ff W.out ?_;clear g j k;intro A r g j k zS;have zaC:True:=trivial;go_wp2_with(first|(at_make;refine qt _ rfl _ _ 57 rfl 5 zav (.int .u8 0) underlying57 zU z8 zY rfl _ _ _ _ 64 rfl rfl rfl rfl ng ib ?_;intro x n s zaF;replace g:=g.S s U;replace j:=j.S s U;replace k:=k.S s U)|(clear zaC;refine hA (a64 _) j rfl rfl rfl ?_))
 have zaM:A.heap.size<=x.heap.size:=s.size;have zX:ck (V [] a x):=((((zq.ad zn).ad zc).ad r).ad s);have zao:=Y g;have zaz:=Y k;rw[wO]at n;have zbj:=g.lt;have zaS:=j.lt;have zaY:=k.lt;have zaB:zR<A.heap.size:=Z;have zac:zad<A.heap.size:=Z;obtain⟨z,zF⟩:∃z,z=A.heap.size:=⟨_,rfl⟩;rw[<-zF]at n zaB zac⊢;have zau:a.heap.size<=z:=Z;have zbk:=n.lt;clear zq zn zc r s zaF g j k zF;go_loopw [34] (λzr wr=>∃d:Nat,d<=64/\zr=X d/\Hid (V [z] x wr)/\Hid (ag wr z 5 (aC (jS o d++List.replicate (64-d) 0)).toArray)) (λzr _=>64-(intOf zr).toNat)
 .exact⟨0,Z,rfl,Y (V.refl _ _),Y (by simpa[jS]using n)⟩
 .obtain⟨d,zbm,rfl,zf,zm⟩:=hrel;by_cases zam:d<64
  .have zat:(d:Int)<64:=Z;have zbn:=oJ o d zam;refine aG ((if(0:Int)>o d then 0 else o d)) λQ zo=>?_;obtain⟨I,zh⟩:∃I:Nat,(if(255:Int)<Q then 255 else Q)=(I:Int):=⟨(if(255:Int)<Q then 255 else Q).toNat,by rw[<-zo];split<;>split<;>omega⟩;have zu:I=ua (o d):=by unfold ua;rw[<-zo]at zh;split at zh<;>split at zh<;>omega
   have za0:I<256:=by rw[zu];unfold ua;omega
   have za5:wr.cell? ⟨z,d,none⟩=some (.int .u8 0):=by
    rw[zm.out.au];have:(jS o d++List.replicate (64-d) 0)[d]? =some 0:=by rw[db (by rw[pH];exact a' _),pH,lF,wx,ae Z]
    rw[b4];unfold aC;rw[fx,this];rfl
   have zaV:=zm.out.eA d;obtain⟨zw,aU⟩:=zm.out.hc d (.int .u8 (I:Int));have zJ:(aC (jS o d++List.replicate (64-d) 0)).toArray.setIfInBounds d (.int .u8 (I:Int))=(aC (jS o (d+1)++List.replicate (64-(d+1)) 0)).toArray:=by rw[cb,Zd,<-zu,show 64-d=(64-(d+1))+1 from Z,r4];congr 1;simp only[aC,hf,cj];rw[Fg _ _ (by simp[pH]),ju,pH,lF,cK];simp
   rw[zJ]at zw;have zV:=Y zw;have zZ:=Y (zf.out.same aU);have zai:=Y zo;have zar:=Y zh;clear zu zw aU zJ zo zh;refine fE λzW zaJ=>?_;go_wp2_with(first|(clear zW;refine lL (o d) 0 Q zai.out rfl rfl rfl rfl ?_)|(clear zaJ;refine A9 Q 255 (I:Int) zar.out rfl rfl rfl rfl ?_))
   exact A7 zZ zV
  .have zaj:d=64:=Z;subst zaj;have zat:¬((64:Int)<64):=Z;have n:=zm.out;rw[lF,wQ,eG]at n;have g:=zao.out.S zf.out aw;have k:=zaz.out.S zf.out aw;have zB:V [] a wr:=zX.out.own zf.out zau;have za4:x.heap.size<=wr.heap.size:=zf.out.size;have zak:True:=trivial;go_wp2_with(clear zak;refine hA aB g rfl rfl rfl ?_)
   refine(zas.out _ (zap.out.ad zB)).mono ?_;rintro e zl ⟨C,E,D,rfl,B⟩;have zb:=B.S;replace g:=g.S zb U;replace k:=k.S zb U;replace n:=n.S zb U;have za2:wr.heap.size<=zl.heap.size:=zb.size;have zaw:=B.y.lt;have zL:=B.u.lt;have zan:=B.v.lt;have zab:=B.iG;have zI:=B.lH;have z':=B.lI;have zbg:lK h C E D<zl.heap.size:=Zf zaw zL zan;have za3:wr.heap.size<=lK h C E D:=Zg zab zI z';refine fE λzaH z1=>?_;go_wp2_with(first|(clear zaH;refine cw _ _ rfl rfl bY rfl ?_;intro zaQ zP zH O zI;replace g:=g.S O U;replace k:=k.S O U;replace n:=n.S O U;have zL:=zH.lt;have zbl:zl.heap.size<=zP.heap.size:=O.size)|(clear z1;refine cv (Q:=al c (bb c C E D)) aB zH rfl (bo _ _) rfl rfl rfl rfl ?_;intro zy y P zaX;replace g:=g.S P aw;replace k:=k.S P aw;replace n:=n.S P aw;have zaW:zP.heap.size<=zy.heap.size:=P.size))
   have z6:zy.cell? ⟨zR,0,none⟩=some (.int .i64 (c.w:Int)):=g.au 0;refine rg [] [0,1,3,4,5,6,7,8,10,102,109,211] ?_;refine iZ aB rfl rfl rfl y.drew ?_;refine ax ?_;refine bN (zaG.out C E D _) ?_;refine A5 λzQ J=>?_;replace g:=g.drew.S J U;replace k:=k.drew.S J U;replace n:=n.drew.S J U;replace y:=y.drew.S J U;have zba:zy.heap.size<=zQ.heap.size:=J.size;refine bN (F.out _) ?_;refine A6 λzv L=>?_;replace g:=g.S L U;replace k:=k.S L U;replace n:=n.S L U;replace y:=y.S L U;have zbe:zQ.heap.size<=zv.heap.size:=L.size;refine iC (zah.out z _ (lK h C E D) (B.A8 h ((((V.refl [] _).ad O).own P Z).drew.ad J|>.ad L)) (aF.aP n) (λ_ zaP e zag=>by cases e;simp at zag;omega)) ?_;rintro e zt ⟨rfl,zal,K⟩;refine⟨_,rfl,?_⟩;replace g:=g.S K aw;replace k:=k.S K aw;replace n:=n.S K aw;replace y:=y.S K aw;have zaT:zv.heap.size<=zt.heap.size:=K.size;refine ax ?_;clear z6;refine fE λzaA zaq=>?_;go_wp2_with(first|(clear zaA;refine hA aB y rfl rfl rfl ?_)|(clear zaq;refine cv (Q:=al c (bb c C E D)) aB k rfl (bo _ _) rfl rfl rfl rfl ?_;intro zax zaa zd zbi;replace g:=g.S zd aw;replace n:=n.S zd aw;replace y:=y.S zd aw;have zaN:zt.heap.size<=zax.heap.size:=zd.size))
   have zM:V [] zl zv:=((((V.refl [] _).ad O).own P Z).drew.ad J).ad L;have zae:V [] a zt:=((zB.ad zb).ad zM).own K Z;have zC:=B.Zi zM K zal (l:=a) Z zae;rw[<-zs.out]at zC;refine bB (eW rfl aB zaa rfl) ⟨C,E,D,?_,zC.on zd Z Z Z Z⟩;rw[Zh zG.out C E D,<-zs.out];rfl
theorem Zl(b:Nat)(e:b<=1048576):Calls prog 243 #[.int .u64 1,.int .u64 (b:Int)] a λc d=>c=.returned (.tuple #[.int .u64 0,.int .u64 (b:Int)])/\a=d:=by
 have g:bits .and .u64 1 4294967295=1:=R;have i:bits .and .u64 (b:Int) 4294967295=(b:Int):=by have:=bits_and_u64_nat b 4294967295 Z Z;rw[show(4294967295:Nat)=2^32-1 from rfl,Nat.and_two_pow_sub_one_of_lt_two_pow Z]at this;exact this
 have f:(b:Int)/4294967296=0:=Z;have h:bits .and .u64 0 4294967295=0:=R;go_in;go_wp2_with fail
 go_ret2;exact⟨rfl,rfl⟩
theorem Zm(b:Nat)(d:b<=1048576):Calls prog 209 #[.int .u64 1,.int .u64 (b:Int)] a λc e=>c=.returned (.tuple #[.int .u64 0,.int .u64 (b:Int)])/\a=e:=by
 go_in;go_wp2_with fail
 refine(Zl _ b d).mono ?_;rintro c f ⟨rfl,rfl⟩;go_wp2_with fail
 go_ret2;exact⟨rfl,rfl⟩
theorem Zn{a:Nat}(b:1<=t)(c:t<=f):splice (aC (List.replicate t a++List.replicate (f-t) 0)) t ((aC ((List.replicate t a++List.replicate (f-t) 0).take t)).take (f-t))=aC (List.replicate (t+min t (f-t)) a++List.replicate (f-(t+min t (f-t))) 0):=by rw[tT U,sa];unfold splice;rw[sa,AV,pD,<-r',<-r',tT U,List.take_replicate,E4,AW U,cU,hy,hy,List.drop_replicate];congr 1;rw[<-b5,List.replicate_append_replicate];congr 2<;>omega
theorem Zo(f:prog.underlying A=some (.slice e))(g:(prog.info? e).map (·.size)=some 1)(c:N)(d h a b:Nat)(n:b<=a)(k:0<a):(Instr.sliceAt A (.slice (ab d) h a) none (some (.int .i64 (b:Int))) none).run prog c=.ok (.slice (ab d) b a) c:=by exact Mv
theorem cr.Zp{b:Qax}(r:prog.underlying A=some (.slice e))(n:(prog.info? e).map (·.size)=some 1){h len a:Nat}(d:Nat)(l:d<=a)(q:0<a)(k:cB b m g)(p:b.op=.slice A w none (some C) none) (o:g.eval w=.slice (ab h) len a) (j:g.eval C=X d) (i:ba (bA []) prog m u f H I (g.put b.dst (.slice (ab h) d a)) c):ba (bA []) prog m u f ((b,0)::H) I g c:=by refine rL _ k (λs _=>?_) i;unfold execOp;simp only[p,hU,rW,o,j,eS,Zo r n s h len a d l q,gl];rfl
theorem Fh(p:Qae)(x f e:Nat)(zc:aF a p 1 1 (aC [f]))(h:1<=e)(zh:e<=4096):Calls prog 173 #[.slice p 1 x,X e] a (wP (List.replicate e f) a):=by
 obtain⟨W,z,D,I,G⟩:=k8 kB;have L:=Y zc;have n:=Y (λa=>Zm a e Z);go_in;go_wp2_with fail
 refine(n.out _).mono ?_;rintro zk zi ⟨rfl,rfl⟩;have K:True:=trivial;go_wp2_with(first|(at_make;refine qt _ rfl _ _ 57 rfl 5 W (.int .u8 0) underlying57 z D I rfl _ _ _ _ e rfl rfl rfl rfl ng ib ?_;intro zm F q aU)|(clear K;refine rF _ rfl _ _ 57 57 rfl 5 underlying57 jQ a.heap.size 0 e e p 1 x rfl rfl (List.replicate e (.int .u8 0)) 5 F _ (L.out.ad q) U (wN _) ?_;intro k i H))
 have B:List.replicate e (Value.int .u8 0)=aC (List.replicate e 0):=(wO e).symm▸rfl;have t:=Y (show ag k a.heap.size 5 (aC (List.replicate 1 f++List.replicate (e-1) 0)).toArray by
  rw[B]at i;have:splice (aC (List.replicate e 0)) 0 ((aC [f]).take e)=aC (List.replicate 1 f++List.replicate (e-1) 0):=by unfold splice;rw[ml (show(aC [f]).length<=e from h)];simp[aC]
  rw[this]at i;exact i)
 have za:=Y (q.own H Z);have zj:a.heap.size<k.heap.size:=t.out.lt;go_loopw [8] (λl wr=>∃c:Nat,1<=c/\c<=e/\l=X c/\Hid (ag wr a.heap.size 5 (aC (List.replicate c f++List.replicate (e-c) 0)).toArray)/\Hid (V [a.heap.size] k wr)) (λl _=>e-(intOf l).toNat)
 .exact⟨1,Z,h,by simp[goInt,DK h],t,Y (V.refl _ _)⟩
 .obtain⟨c,C,O,rfl,m,s⟩:=hrel;by_cases zf:c<e
  .have P:(c:Int)<(e:Int):=Z;have J:=Y (show aF wr.drew (some ⟨a.heap.size,0,none⟩) 1 c (aC ((List.replicate c f++List.replicate (e-c) 0).take c)) by have:=(aF.aP m.out.drew).front (c:=c) U;rwa[k3,sa]at this);have zb:=Y (show c+(e-c)<=(aC (List.replicate c f++List.replicate (e-c) 0)).length by rw[pD];simp);refine aG (Nat.min c (e-c)) λg o=>?_;have u:min c (e-c)=g:=o;have zl:g<=c/\g<=e-c/\1<=g:=Z;have n:=Y o;go_wp2_with fail
   refine rg [] [300,1,2,3,4,5,6,207,8,9] ?_;refine qB (X c) rfl rfl rfl (λzn E j=>?_) ?_
   . (go_wp2_with fail)<;>exact j.out
   simp only[Act.put,cb,cK,cQ];refine jL ?_;refine AX underlying57 jQ c c (c' _) Z Z rfl rfl rfl rfl ?_;simp only[Act.put,cb,cK,cQ];refine jL ?_;refine Zp underlying57 jQ c Z Z rfl rfl rfl rfl ?_;simp only[Act.put,cb,cK,cQ];refine el λE j=>?_;refine rF _ rfl _ _ 57 57 rfl 5 underlying57 jQ a.heap.size c (e-c) (e-c) _ c e rfl rfl (aC (List.replicate c f++List.replicate (e-c) 0)) 5 m.out.drew _ J.out zb.out (wN _) ?_;intro A w zd;rw[o];refine j _ _ ?_;simp only[Act.put,cb,cK,cQ];refine ax ?_;have r:=Y (show ag A a.heap.size 5 (aC (List.replicate (c+min c (e-c)) f++List.replicate (e-(c+min c (e-c))) 0)).toArray by rw[Zn C O]at w;exact w);have u:min c (e-c)=g:=n.out;rw[u]at r;have Q:=Y (s.out.drew.trans zd (b3.refl _ _));go_wp2_with fail
   go_roundw
   .exact⟨c+g,Z,Z,a8,r,Q⟩
   .simp[intOf];omega
  .have ze:c=e:=Z;subst ze;have P:¬((c:Int)<(c:Int)):=Z;go_wp2_with fail
   go_ret;have y:=m.out;rw[lF,wQ,eG]at y;exact⟨a.heap.size,by rw[hy];rfl,y,za.out.own s.out Z,Z⟩
def wW(e:Qav)(c:Qat)(len:Nat)(f:List (Nat×Value)):Option (Array Value):=(e.info? c).bind λa=>a.zero.bind λb=>if decide (len*a.size>2^24)||len*a.size==0 then none else Instr.fill (λd=>some (d*a.size,a.size)) ((Array.range (len*a.size)).map (b.cells[·%b.cells.size]!)) f
theorem e'{d:Qax}{j:Qaa}{len:Nat}{parts:Array (Nat×Operand)}(u:k.underlying A=some (.slice e))(cells:Qad)(n:d.guard=none)(t:d.op=.buildSlice A len parts) (a:wW k e len (parts.map λ(l,p)=>(l,g.eval p)).toList=some cells) (o:∀h i,ag i h e cells->V [] c i->c.heap.size<=h->wpList k m j D (g.put d.dst (.slice (ab h) len len)) i):wpList k m j (d::D) g c:=by
 unfold wW at a;obtain⟨f,r,a⟩:=Option.bind_eq_some_iff.1 a;obtain⟨q,s,a⟩:=Option.bind_eq_some_iff.1 a;by_cases b:(decide (len*f.size>2^24)||len*f.size==0)=true
 .rw[ae b]at a;cases a
 .rw[M b]at a;simp only[k5,mX,iz,kd]at b;exact wpList_buildSlice n A e len parts t cells f q u r s b.1 b.2 a (o _ _ (ag.aP _ _ _) ((V.refl _ _).alloc _) (a' _))
def dl(a b d c v:Nat):aq:=⟨a,b,List.replicate (a*b) d,List.replicate (a/2*(b/2)) c,List.replicate (a/2*(b/2)) v⟩
theorem sg{a b c v:Nat}(l:2<=a)(k:a<=64)(g:a%2=0)(j:2<=q)(d:q<=64)(e:q%2=0)(h:b<256)(f:c<256)(i:v<256):(dl a q b c v).Ok:=⟨l,k,g,j,d,e,hy,hy,hy,λ_ q=>(wX q)▸h,λ_ q=>(wX q)▸f,λ_ q=>(wX q)▸i⟩
theorem A'(b c h g v:Nat)(A:2<=b)(J:b<=64)(I:b%2=0)(zp:2<=c)(Q:c<=64)(zc:c%2=0):Calls prog 152 #[X b,X c,.int .u8 (h:Int),.int .u8 (g:Int),.int .u8 (v:Int)] a λu zn=>∃H zf d,u=.returned (.tuple #[.agg (al (dl b c h g v) (bb (dl b c h g v) H zf d)),X 0])/\hW (dl b c h g v) a H zf d zn:=by
 have zr:=Y (λa=>L' b c a A J I zp Q zc);obtain⟨k,F⟩:∃k,k=b*c:=⟨_,rfl⟩;obtain⟨p,za⟩:∃E,E=b/2:=⟨_,rfl⟩;obtain⟨r,K⟩:∃E,E=c/2:=⟨_,rfl⟩;obtain⟨d,D⟩:∃d,d=p*r:=⟨_,rfl⟩;have zs:b*c<=64*64:=eL J Q;have ze:p*r<=32*32:=eL Z Z;have zu:1*1<=b*c:=eL Z Z;have zb:1*1<=p*r:=eL Z Z;have zQ:(b:Int)*(c:Int)=(k:Int):=by rw[F];push_cast;rfl
 have zH:(b:Int)/2=(p:Int):=Z;have zB:(c:Int)/2=(r:Int):=Z;have zy:(p:Int)*(r:Int)=(d:Int):=by rw[D];push_cast;rfl
 have zt:1<=k/\k<=4096/\1<=d/\d<=4096/\p<=32/\r<=32:=Z;have W:=Y (show dl b c h g v=⟨b,c,List.replicate k h,List.replicate d g,List.replicate d v⟩ by rw[F,D,za,K];rfl);have zK:=Y zt;clear zs ze zu zb F za K D I zc;go_in;go_wp2_with(refine cw _ _ rfl rfl bY rfl ?_;intro zV A f G ze;have zC:=f.lt;have zM:a.heap.size<=A.heap.size:=G.size)
 refine(zr.out _).mono ?_;rintro u zA ⟨rfl,rfl⟩;go_wp2_with(refine e' underlying57 (#[.int .u8 (h:Int)]) rfl rfl ar ?_;intro zk zi e C zb;replace f:=f.S C U;have zx:=e.lt;have zF:A.heap.size<=zi.heap.size:=C.size)
 refine(Fh _ (some ⟨zk,0,none⟩) 1 h k (.aP (y:=[h]) e) Z Z).mono ?_;rintro u L ⟨y,rfl,i,w,zI⟩;replace f:=f.S w U;replace e:=e.S w U;have zz:zi.heap.size<=L.heap.size:=w.size;have zT:=i.lt;go_wp2_with(refine e' underlying57 (#[.int .u8 (g:Int)]) rfl rfl ar ?_;intro zq O j t zL;replace f:=f.S t U;replace e:=e.S t U;replace i:=i.S t U;have zG:=j.lt;have zw:L.heap.size<=O.heap.size:=t.size)
 refine(Fh _ (some ⟨zq,0,none⟩) 1 g d (.aP (y:=[g]) j) Z Z).mono ?_;rintro u zh ⟨x,rfl,l,q,zS⟩;replace f:=f.S q U;replace e:=e.S q U;replace i:=i.S q U;replace j:=j.S q U;have zP:O.heap.size<=zh.heap.size:=q.size;have zW:=l.lt;go_wp2_with(refine e' underlying57 (#[.int .u8 (v:Int)]) rfl rfl ar ?_;intro zo P s o zO;replace f:=f.S o U;replace e:=e.S o U;replace i:=i.S o U;replace j:=j.S o U;replace l:=l.S o U;have zD:=s.lt;have zJ:zh.heap.size<=P.heap.size:=o.size)
 refine(Fh _ (some ⟨zo,0,none⟩) 1 v d (.aP (y:=[v]) s) Z Z).mono ?_;rintro u zd ⟨z,rfl,B,n,zU⟩;replace f:=f.S n U;replace e:=e.S n U;replace i:=i.S n U;replace j:=j.S n U;replace l:=l.S n U;replace s:=s.S n U;have zE:P.heap.size<=zd.heap.size:=n.size;have zv:=B.lt;have zm:=Y (show Value.agg #[X b,X c,.slice (ab y) k k,.slice (ab x) d d,.slice (ab z) d d]=Value.agg (al (dl b c h g v) (bb (dl b c h g v) y x z)) by rw[W.out];simp[al,bb]);go_wp2_with(refine cv (Q:=al (dl b c h g v) (bb (dl b c h g v) y x z)) aB f rfl (bo _ _) rfl rfl rfl zm.out ?_;intro zl zj m zN;replace e:=e.S m aw;replace i:=i.S m aw;replace j:=j.S m aw;replace l:=l.S m aw;replace s:=s.S m aw;replace B:=B.S m aw;have zR:zd.heap.size<=zl.heap.size:=m.size)
 refine bB (eW rfl aB zj rfl) ⟨y,x,z,rfl,?_⟩;rw[W.out];exact⟨i,l,B,(((((((G.ad C).ad w).ad t).ad q).ad o).ad n).own m Z),Z,Z,Z,Z,Z,Z⟩
def gR(b a f:Nat)(e g:af)(c:af):Nat->List Nat
 |0=>c
 |d+1=>eX (gR b a f e g c d) (d*a) b a (if d=0 then e else g) f
def gH(a b:aq):aq:=⟨a.w,2*a.h,gR (2*a.w) a.w a.h a.y b.y (List.replicate (2*a.w*a.h) 0) 2,gR a.w (a.w/2) (a.h/2) a.u b.u (List.replicate (a.w*a.h/2) 0) 2,gR a.w (a.w/2) (a.h/2) a.v b.v (List.replicate (a.w*a.h/2) 0) 2⟩
theorem Fi{a:Nat}(e:d<2)(b:s<q):d*a+s*(2*a)+a<=2*a*q:=by have c:(s+1)*(2*a)<=q*(2*a):=ix _ b;rw[ia,eF q]at c;have f:d*a<=1*a:=ix _ Z;omega
theorem ub{a b:Nat}{f j e:af}(g:f.length=a*b)(i:j.length=a*b)(h:e.length=2*a*b):∀c,c<=2->(gR (2*a) a b f j e c).length=2*a*b
 |0,_=>h
 |c+1,m=>by have d:=ub g i h c Z;show(eX _ _ _ _ _ _).length= _;rw[ms _ _ _ _ _ _ (λl k=>by rw[d];exact Fi Z k) (by split<;>simp only[g,i,eF]<;>exact a' _),d]
theorem Ba{i j k:Nat}{d h c:af}(e:∀a∈d,a<256)(g:∀a∈h,a<256)(f:∀a∈c,a<256):∀b,∀a∈gR i j k d h c b,a<256
 |0=>f
 |b+1=>by
  refine se (Ba e g f b) ?_ _;split
  .exact e
  .exact g
theorem wY{a e:aq}(f:a.Ok)(c:e.Ok)(h:e.w=a.w)(i:e.h=a.h)(w:a.h<=32):(gH a e).Ok:=by
 have j:∀(o m:Nat),m∈List.replicate o 0->m<256:=λ_ _ p=>(wX p)▸R;have n:a.w*a.h/2=2*(a.w/2)*(a.h/2):=by obtain⟨b,s⟩:∃b,a.w=2*b:=⟨a.w/2,t'⟩;obtain⟨d,r⟩:∃d,a.h=2*d:=⟨a.h/2,Bb⟩;rw[s,r,show 2*b/2=b from Z,show 2*d/2=d from Z,show 2*b*(2*d)=2*(2*b*d) by rw[wT]];omega
 have q:a.w=2*(a.w/2):=t';have l:∀g k:af,g.length=a.w/2*(a.h/2)->k.length=a.w/2*(a.h/2)->(gR a.w (a.w/2) (a.h/2) g k (List.replicate (a.w*a.h/2) 0) 2).length=2*(a.w/2)*(a.h/2):=λg k t u=>by have:=ub (a:=a.w/2) (b:=a.h/2) t u (e:=List.replicate (a.w*a.h/2) 0) (by rw[hy,n]) 2 (a' _);rw[<-q]at this⊢;exact this
 refine⟨f.gG,f.fH,f.kC,by show 2<=2*a.h;have:=f.iY;omega,by show 2*a.h<=64;omega,by show 2*a.h%2=0;omega,?_,?_,?_,Ba f.gy c.gy (j _) _,Ba f.fP c.fP (j _) _,Ba f.hV c.hV (j _) _⟩
 .show(gR _ _ _ _ _ _ _).length=a.w*(2*a.h);rw[ub f.d' (by rw[c.d',h,i]) hy 2 (a' _),eF 2 a.w,wy]
 .show(gR _ _ _ _ _ _ _).length=a.w/2*(2*a.h/2);rw[l _ _ f.eM (by rw[c.eM,h,i]),show 2*a.h/2=2*(a.h/2)from Bb,eF 2 (a.w/2),wy]
 .show(gR _ _ _ _ _ _ _).length=a.w/2*(2*a.h/2);rw[l _ _ f.aR (by rw[c.aR,h,i]),show 2*a.h/2=2*(a.h/2)from Bb,eF 2 (a.w/2),wy]
theorem Fj(e f l:Nat)(j:af)(i:Qae)(k m:Nat)(d:af)(h g b c:Nat)(x:j.length=f)(r:d.length=k)(ak:ag a e 5 (aC j).toArray)(D:aF a i 1 d.length (aC d))(y:vO i d.length [e])(p:f<=l)(z:k<=m)(E:f<=4096) (t:1<=b) (q:b<=64) (u:c<=64) (w:g<=128) (C:h<=8192) (A:∀o,o<c->h+o*g+b<=f) (B:c*b<=k):Calls prog 126 #[.slice (ab e) f l,.agg #[X h,X g,X b,X c],.slice i k m] a λs n=>s=.returned (.tuple #[])/\ag n e 5 (aC (eX j h g b d c)).toArray/\V [e] a n:=by subst x r;exact wR a e l j i m d h g b c ak D y p z E t q u w C A B
theorem JH{f:Operand->Value}{j:Qax}{l h:Qau}(o:j.op=Op.makeSlice A l h)(c:Qat)(g:TypeInfo)(a:Qas)(p:k.underlying A=some (.slice c))(u:k.info? c=some g)(x:g.zero=some a)(t:g.size=1)(w:a.cells=#[a]) (d:Qaw) (e:Nat) (s:f l=.int d (e:Int)) (n:f h=.int d (e:Int)) (y:g.bytes*e<=281474976710656) (i:e<=maxLen) (b:N):(execOp f j).run k b=.ok (.value (.slice (some ⟨b.heap.size,0,none⟩) e e)) (b.alloc (.cells (List.replicate e a).toArray c)):=by
 have r:(g.bytes:Int)*(e:Int)<=281474976710656:=by exact DL
 have m:=run_make (P:=k) b A c g a p u x d d (e:Int) (e:Int) Z Z r yO;rw[t,gx,tb a w]at m;unfold execOp;simp only[o,s,n,m,Result.andThen,eS,iW]
structure Mw(f:aq)(j i c:Nat)(g:N)(b d a e:Nat)(h:N):Prop where
 y:ag h b 5 (List.replicate i (Value.int .u8 0)).toArray
 u:ag h d 5 (List.replicate c (Value.int .u8 0)).toArray
 v:ag h a 5 (List.replicate c (Value.int .u8 0)).toArray
 f:ag h e 71 #[X (f.w:Int),X j,.slice (ab b) i i,.slice (ab d) c c,.slice (ab a) c c]
 S:V [] g h
 iG:g.heap.size<=b
 lH:g.heap.size<=d
 lI:g.heap.size<=a
 Zq:g.heap.size<=e
 k':b≠d
 ac:b≠a
 dp:d≠a
 Zr:b≠e
 Zs:d≠e
 Zt:a≠e
theorem Zu{l:aq}{i b a:Nat}{o:Qaq} (p:∀e h d j n,Mw l i b a c e h d j n->u (((((((g.put (some 51) (.slice (ab e) b b)).put (some 56) (.slice (ab h) a a)).put (some 61) (.slice (ab d) a a)).put (some 62) (.agg #[X (l.w:Int),X i,.slice (ab e) b b,.slice (ab h) a a,.slice (ab d) a a])).put (some 8) (ab j)).put none undef)) n) (i:hS [] k zp m zo (λs n=>∃e h d j,Mw l i b a c e h d j n/\s=((((((g.put (some 51) (.slice (ab e) b b)).put (some 56) (.slice (ab h) a a)).put (some 61) (.slice (ab d) a a)).put (some 62) (.agg #[X (l.w:Int),X i,.slice (ab e) b b,.slice (ab h) a a,.slice (ab d) a a])).put (some 8) (ab j)).put none undef)) f o g c):hS [] k zp m zo u f o g c:=y' (λ_ _ ⟨_,_,_,_,r,q⟩=>q▸p _ _ _ _ _ r) _ _ _ _ i
theorem Mx(a:E:=by refine c8 20 [] ar (bf.2 ⟨?_,U⟩);refine gb rfl λzu ze=>?_;refine cv (Q:=#[X (c.w:Int),X zi,.slice (ab _) u u,.slice (ab _) n n,.slice (ab _) n n]) aB zN rfl fy rfl rfl rfl rfl ?_;intro zT zbT y zbZ;replace F:=F.own y Z;refine ze _ _ F ?_;clear ze zu;replace W:=W.S y aw;replace za:=za.S y aw;replace zb:=zb.S y aw;try simp only[Act.put,cb,cK,cQ];exact rQ ar ⟨_,_,_,_,⟨W,za,zb,zbT,F,Z,Z,Z,Z,Z,Z,Z,Z,Z,Z⟩,rfl⟩ _):E:=a
theorem My(a:E:=by subst zav zaQ;rcases(show B=0\/B=1\/B=2\/B=3\/B=4 by simp[al]at zQ;omega)with rfl|rfl|rfl|rfl|rfl<;>rfl):E:=a
theorem Mz(a:E:=by
 refine c8 18 [] ar (bf.2 ⟨?_,U⟩);refine gb rfl λzu ze=>?_;go_wp2_with fail;refine ze _ _ F ?_;clear ze zu;try simp only[Act.put,cb,cK,cQ]
 exact Mx):E:=a
theorem MA(a:zn)(b:zn->E:=by intro zbG;refine gb rfl λzu ze=>?_;refine cw _ _ rfl rfl bY rfl ?_;intro zx zT zN y zU;have zao:=W.lt;have zay:=za.lt;have zaD:=zb.lt;replace F:=F.ad y;refine ze _ _ F ?_;clear ze zu;replace W:=W.S y U;replace za:=za.S y U;replace zb:=zb.S y U;revert zx zT zN y zU zao zay zaD F W za zb;exact zbG):E:=b a
theorem wZ(c h:aq)(m l:aK)(f:c.Ok)(q:h.Ok)(zP:h.w=c.w)(zL:h.h=c.h)(za0:c.h<=32)(i:aT a c m)(za2:aT a h l):Calls prog 72 #[al c m,al h l] a (jR (gH c h) a):=by
 obtain⟨zax,zae,zas,zo,G⟩:=k8 kB;have zcD:=f.gG;have zaO:=f.fH;have zca:=f.iY;refine Fk λzbt za3=>?_;have zby:=Y i;have zbk:=Y za2;have zm:=Y f;have zH:=Y q;have zcz:(h.w:Int)=(c.w:Int):=Z;have zaT:(h.h:Int)=(c.h:Int):=Z;obtain⟨t,I⟩:∃o,o=c.w/2:=⟨_,rfl⟩;obtain⟨w,L⟩:∃o,o=c.h/2:=⟨_,rfl⟩;obtain⟨O,z'⟩:∃o,o=2*c.w:=⟨_,rfl⟩;obtain⟨zi,zat⟩:∃o,o=2*c.h:=⟨_,rfl⟩;have zcx:(2:Int)*(c.h:Int)=(zi:Int):=Z;obtain⟨u,zG⟩:∃o,o=O*c.h:=⟨_,rfl⟩;obtain⟨zY,zK⟩:∃o,o=c.w*c.h:=⟨_,rfl⟩;obtain⟨n,zW⟩:∃o,o=zY/2:=⟨_,rfl⟩;have zbX:O*c.h<=128*32:=eL Z za0;have zaW:c.w*c.h<=64*32:=eL zaO za0;have zaN:(2:Int)*(c.w:Int)=(O:Int):=Z;have zb2:(O:Int)*(c.h:Int)=(u:Int):=by rw[zG];push_cast;rfl
 have zct:(c.w:Int)*(c.h:Int)=(zY:Int):=by rw[zK];push_cast;rfl
 have zcG:(zY:Int)/2=(n:Int):=Z;have zcH:zi<=64/\O<=128/\u<=4096/\zY<=2048/\n<=1024:=Z;have zv:n=2*t*w:=by rw[zW,zK];have zai:c.w=2*t:=t';have zi:c.h=2*w:=Bb;rw[zai,zi,show 2*t*(2*w)=2*(2*t*w) by rw[wT]];omega
 have zbI:=Y zv;have zbz:=Y (show t<=32/\1<=t/\w<=16 from Z);have zaH:=Y (show∀d,d<=2->(gR O c.w c.h c.y h.y (List.replicate u 0) d).length=u by rw[zG,z'];exact ub f.d' (by rw[q.d',zP,zL]) hy);have zaz:c.w=2*t:=t';have zaq:=Y (show∀d,d<=2->(gR c.w t w c.u h.u (List.replicate n 0) d).length=n by rw[zaz,zv];exact ub (by rw[f.eM,I,L]) (by rw[q.eM,zP,zL,I,L]) hy);have zap:=Y (show∀d,d<=2->(gR c.w t w c.v h.v (List.replicate n 0) d).length=n by rw[zaz,zv];exact ub (by rw[f.aR,I,L]) (by rw[q.aR,zP,zL,I,L]) hy);have zaV:=Y (show gH c h=⟨c.w,zi,gR O c.w c.h c.y h.y (List.replicate u 0) 2,gR c.w t w c.u h.u (List.replicate n 0) 2,gR c.w t w c.v h.v (List.replicate n 0) 2⟩ by rw[zG,zat,z',zW,zK,I,L];rfl);clear zv zaz;have zr:=Y (And.intro I (And.intro L (And.intro z' (And.intro zat (And.intro zG (And.intro zK (And.intro zW (And.intro zP zL))))))));clear zbX zaW zat zP zL i za2 f q zG zK zW z' I L;go_in;go_wp2_with(first|(refine cx _ (al c m) rfl rfl rfl rfl ?_;intro zj zaX g zag zaW;have zb7:=g.lt;have zw:a.heap.size<=zaX.heap.size:=zag.size)|(refine cx _ (al h l) rfl rfl rfl rfl ?_;intro zt zaL j z8 zcJ;replace g:=g.S z8 U;have zcw:=j.lt;have zb5:zaX.heap.size<=zaL.heap.size:=z8.size)|(refine cw _ _ rfl rfl bY rfl ?_;intro zbr zz k zF zcb;replace g:=g.S zF U;replace j:=j.S zF U;have zb1:=k.lt;have zck:zaL.heap.size<=zz.heap.size:=zF.size)|(refine hA aB g rfl rfl rfl ?_))
 refine Ff zbt.out ?_;clear g j k;intro A r g j k zS;go_wp2_with(refine mq aB j rfl rfl rfl ?_)
 refine MB ?_;clear g j k;intro s p g j k zah zI zy zJ zM;go_wp2_with fail
 clear zI zy zJ zM;have zbS:s.cell? ⟨zj,0,none⟩=some (.int .i64 (c.w:Int)):=g.au 0;have zbB:s.cell? ⟨zj,1,none⟩=some (.int .i64 (c.h:Int)):=g.au 1;refine rg [] [0,1,2,3,4,5] ?_;refine vZ ?_;replace g:=g.drew;replace j:=j.drew;replace k:=k.drew;refine ax ?_;clear zbS zbB;go_wp2_with fail
 refine wh (x:=[]) [0,1,2,3,4,5,6,8,9,10,11,13,14,15,16] 6 ar ar ar rfl ?_;simp only[ga,nth,Nat.reduceMod,Nat.reduceDiv,cz,dv,c'];refine ax ?_;have zcd:s.drew.heap.size=s.drew.drew.heap.size:=rfl;refine Zu (l:=c) (i:=zi) (b:=u) (a:=n) (λD H J zaa zO zs=>?_) ?_;rotate_left;refine Xw 19 4 [⟨7,51,5,(List.replicate u (.int .u8 0)).toArray,λzp=>.slice (ab zp) u u⟩,⟨12,56,5,(List.replicate n (.int .u8 0)).toArray,λzp=>.slice (ab zp) n n⟩,⟨17,61,5,(List.replicate n (.int .u8 0)).toArray,λzp=>.slice (ab zp) n n⟩,⟨19,8,71,eh,λzp=>ab zp⟩] 2 _ _ _ rfl ar (show([51,56,61,8]:af).Nodup from R) (show([7,12,17,19]:af).Nodup from R) ?_ (V.refl _ _) (Xy ar) (λzp zO zC zB zau=>?_) (λ_ zp zO zC zB zau=>?_)
 .simp only[bf,eC,false_imp_iff,implies_true,uc];exact⟨⟨_,rfl,rfl,rfl,λ_ _ i=>l',JH rfl _ zax _ underlying57 zae zas zo rfl .i64 u rfl rfl ng ib⟩,⟨_,rfl,rfl,rfl,λ_ _ i=>l',JH rfl _ zax _ underlying57 zae zas zo rfl .i64 n rfl rfl ng ib⟩,⟨_,rfl,rfl,rfl,λ_ _ i=>l',JH rfl _ zax _ underlying57 zae zas zo rfl .i64 n rfl rfl ng ib⟩,⟨_,rfl,rfl,rfl,λ_ _ i=>l',λzcA=>by rw[JS (zn:=.agg eh) rfl ar];rfl⟩⟩
 .simp only[mh,bf,eC,false_imp_iff,implies_true,uc]at zC zB⊢;obtain⟨⟨W,zbP⟩,⟨za,zbu⟩,⟨zb,zbH⟩,⟨zN,zU⟩⟩:=zC;have F:=zau;try simp only[Act.put,cb,cK,cQ]
  simp at zB;exact Mz
 .have zbC:∀(zX z7 aM zam:bJ),zX.i≠19->z7.i≠19->aM.i≠19->zam.i=19->mi 19 [zX,z7,aM,zam]=[zX,z7,aM]:=λzX z7 aM zam zai zi zbi zbR=>by simp[mi,zai,zi,zbi,zbR]
  rw[zbC _ _ _ _ (show(7:Nat)≠19 from R) (show(12:Nat)≠19 from R) (show(17:Nat)≠19 from R) rfl]at zC zB⊢;simp only[mh,bf,eC,false_imp_iff,implies_true,uc]at zC zB⊢;obtain⟨⟨W,zbP⟩,⟨za,zbu⟩,⟨zb,zbH⟩⟩:=zC;have F:=zau;try simp only[Act.put,cb,cK,cQ]
  simp at zB;refine c8 18 [19] ar (bf.2 ⟨?_,bf.2 ⟨?_,U⟩⟩)
  .refine gb rfl λzu ze=>?_;go_wp2_with fail;refine ze _ _ F ?_;clear ze zu;try simp only[Act.put,cb,cK,cQ]
   refine c8 19 [] ar (bf.2 ⟨?_,U⟩);refine MA ?_;clear F W za zb;intro zx zT zN y zU zao zay zaD F W za zb;try simp only[Act.put,cb,cK,cQ]
   exact Mx
  .refine MA ?_;clear F W za zb;intro zx zT zN y zU zao zay zaD F W za zb;try simp only[Act.put,cb,cK,cQ]
   exact Mz
 simp only[Act.put,cb,cK,cQ];have zcC:zj<s.drew.drew.heap.size:=g.lt;have zcq:zt<s.drew.drew.heap.size:=j.lt;have zcI:zbr<s.drew.drew.heap.size:=k.lt;replace g:=g.drew.S zs.S U;replace j:=j.drew.S zs.S U;replace k:=k.drew.S zs.S U;have x:=zs.f;have zb9:=x.lt;have E:=Y zs;have zb8:s.drew.drew.heap.size<=zO.heap.size:=zs.S.size;have zaA:=Y (((((((zag.ad z8).ad zF).ad r).ad p)).drew).drew.ad zs.S);clear zs zag z8 zF r p;go_wp2_with(first|(refine hA aB g rfl rfl rfl ?_)|(refine hA aB j rfl rfl rfl ?_)|(refine e' underlying27 (#[X (c.w:Int),X (c.h:Int),.slice m.a c.y.length m.cJ,.slice m.b c.u.length m.cT,.slice m.c c.v.length m.cm,X (h.w:Int),X (h.h:Int),.slice l.a h.y.length l.cJ,.slice l.b h.u.length l.cT,.slice l.c h.v.length l.cm]) rfl rfl ar ?_;intro zcF zar C zl zcB;replace g:=g.S zl U;replace j:=j.S zl U;replace k:=k.S zl U;replace x:=x.S zl U))
 have zcf:=E.out.iG;have zce:=E.out.lH;have zb6:=E.out.lI;have zco:=E.out.Zq;have zbL:=E.out.k';have zbO:=E.out.ac;have zbl:=E.out.dp;have zcu:=E.out.Zr;have zch:=E.out.Zs;have zci:=E.out.Zt;have zcg:=E.out.y.lt;have zcr:=E.out.u.lt;have zcc:=E.out.v.lt;have zcl:zO.heap.size<=zar.heap.size:=zl.size;have zbY:=C.lt;have zcm:a.heap.size<=zO.heap.size:=zaA.out.size;have zq:=E.out.y.S zl U;have zh:=E.out.u.S zl U;have K:=E.out.v.S zl U;rw[wO]at zq zh K;have zbf:=Y (And.intro zq (And.intro zh K));have zbw:=Y (And.intro g (And.intro j (And.intro k (And.intro x C))));have za5:=Y (zaA.out.ad zl);clear g j k x C zl zaA zq zh K;go_loopw [67] (λzaj wr=>∃d:Nat,d<=2/\zaj=X d/\Hid (ag wr D 5 (aC (gR O c.w c.h c.y h.y (List.replicate u 0) d)).toArray/\ag wr H 5 (aC (gR c.w t w c.u h.u (List.replicate n 0) d)).toArray/\ag wr J 5 (aC (gR c.w t w c.v h.v (List.replicate n 0) d)).toArray)/\Hid (V [D,H,J] zar wr)) (λzaj _=>2-(intOf zaj).toNat)
 .exact⟨0,Z,rfl,zbf,Y (V.refl _ _)⟩
 .obtain⟨d,zaE,rfl,zaM,zn⟩:=hrel;have zb3:zar.heap.size<=wr.heap.size:=zn.out.size;obtain⟨g,j,k,x,C⟩:=zbw.out;replace g:=g.S zn.out aw;replace j:=j.S zn.out aw;replace k:=k.S zn.out aw;replace x:=x.S zn.out aw;replace C:=C.S zn.out aw;by_cases zaS:d<2
  .have zbE:(d:Int)<2:=Z;obtain⟨o,z,zav,zaQ⟩:∃(o:aq)(z:aK),(if d=0 then c else h)=o/\(if d=0 then m else l)=z:=⟨_,_,rfl,rfl⟩;have zaZ:∀B,B<(al o z).size->(#[Value.int .i64 (c.w:Int),X (c.h:Int),.slice m.a c.y.length m.cJ,.slice m.b c.u.length m.cT,.slice m.c c.v.length m.cm,X (h.w:Int),X (h.h:Int),.slice l.a h.y.length l.cJ,.slice l.b h.u.length l.cT,.slice l.c h.v.length l.cm]:Qad)[d*5+B]? =(al o z)[B]? :=λB zQ=>by
    rcases(show d=0\/d=1 from Z)with rfl|rfl
    .exact My
    .exact My
   have zbV:=Y zaZ;obtain⟨zA,zo⟩:∃zaF,zaF=d*c.w:=⟨_,rfl⟩;obtain⟨zw,G⟩:∃zaF,zaF=d*t:=⟨_,rfl⟩;have I:=zr.out.1;have L:=zr.out.2.1;have zbM:zA=2*zw:=by rw[zo,G,I,wT];congr 1;have:=zm.out.kC;omega
   have zcp:zA<=1*64:=by rw[zo];exact eL Z zaO
   have zcj:(d:Int)*(c.w:Int)=(zA:Int):=by rw[zo];push_cast;rfl
   have zb0:(zA:Int)/2=(zw:Int):=Z;have zb4:(c.w:Int)/2=(t:Int):=Z;have zcy:(c.h:Int)/2=(w:Int):=Z;have zZ:=Y (And.intro zo G);have zy:wr.cell? ⟨zaa,2,none⟩=some (.slice (ab D) u u):=x.au 2;have zcE:zw<=32:=Z;clear zaZ zo G zbM I L;go_wp2_with(first|(refine r9 (aL:=al o z) aB C zbV.out rfl rfl rfl ?_)|(refine cw _ _ rfl rfl bY rfl ?_;intro zx zaR zbJ y zbN;replace g:=g.S y U;replace j:=j.S y U;replace k:=k.S y U;replace x:=x.S y U;replace C:=C.S y U)|(refine cv (Q:=al o z) aB zbJ rfl (bo _ _) rfl rfl rfl rfl ?_;intro zD zk zc zbF;replace g:=g.S zc aw;replace j:=j.S zc aw;replace k:=k.S zc aw;replace x:=x.S zc aw;replace C:=C.S zc aw;clear zy;have zbU:zD.cell? ⟨zaa,2,none⟩=some (.slice (ab D) u u):=x.au 2;have zaT:zD.cell? ⟨zx,2,none⟩=some (.slice z.a o.y.length z.cJ):=zk.au 2))
   have zcv:wr.heap.size<=zaR.heap.size:=y.size;have zcn:zaR.heap.size<=zD.heap.size:=zc.size;have tA:V [] wr zD:=y.own zc zbN;have zaw:=za5.out.trans zn.out (λzbp zan=>.inr (by simp at zan;omega));have qH:=zaw.ad tA;obtain⟨zq,zh,K⟩:=zaM.out;replace zq:=zq.S tA U;replace zh:=zh.S tA U;replace K:=K.S tA U;obtain⟨z1,zab,zV,zd⟩:o.Ok/\o.w=c.w/\o.h=c.h/\aT a o z:=by
    subst zav zaQ;rcases(show d=0\/d=1 from Z)with rfl|rfl
    .exact⟨zm.out,rfl,rfl,zby.out⟩
    .exact⟨zH.out,zr.out.2.2.2.2.2.2.2.1,zr.out.2.2.2.2.2.2.2.2,zbk.out⟩
   have zbm:=zd.y.ad qH;have zak:=zd.u.ad qH;have zR:=zd.v.ad qH;have zbK:=zd.y.off (h:=D) Z;have zbs:=zd.u.off (h:=H) Z;have zbW:=zd.v.off (h:=J) Z;have zba:=zd.u.off (h:=D) Z;have zbv:=zd.v.off (h:=D) Z;have zbq:=zd.v.off (h:=H) Z;have I:=zr.out.1;have L:=zr.out.2.1;have zaK:o.y.length=c.w*c.h:=by rw[z1.d',zab,zV]
   have zaU:o.u.length=t*w:=by rw[z1.eM,zab,zV,I,L]
   have aR:o.v.length=t*w:=by rw[z1.aR,zab,zV,I,L]
   have zaB:O=2*c.w:=zr.out.2.2.1;have zaJ:c.w=2*t:=by have:=zm.out.kC;omega
   have zv:n=2*t*w:=zbI.out;have zbb:∀d,d<=2->(gR O c.w c.h c.y h.y (List.replicate u 0) d).length=u:=zaH.out;have zbg:∀d,d<=2->(gR c.w t w c.u h.u (List.replicate n 0) d).length=n:=zaq.out;have zbd:∀d,d<=2->(gR c.w t w c.v h.v (List.replicate n 0) d).length=n:=zap.out;have zaY:∀B,B<c.h->zA+B*O+c.w<=u:=λB zQ=>by rw[zZ.out.1,zaB,zr.out.2.2.2.2.1,zaB];exact Fi zaS zQ
   have za1:∀B,B<w->zw+B*c.w+t<=n:=λB zQ=>by rw[zZ.out.2,zv,show c.w=2*t from zaJ];exact Fi zaS zQ
   have zcs:=zbz.out;have zaG:ck (c.h*c.w<=o.y.length/\w*t<=o.u.length/\w*t<=o.v.length):=⟨by rw[zaK,eF];exact a' _,by rw[zaU,eF];exact a' _,by rw[aR,eF];exact a' _⟩;have zbo:=Y zaY;have zaP:=Y za1;clear I L zaK zaU aR zaB zaJ zv zaY za1 zab zV z1 zbb zbg zbd;refine(Fj zD D u u _ z.a o.y.length z.cJ o.y zA O c.w c.h (zaH.out d zaE) rfl zq zbm zbK (a' _) zd.lG Z Z Z Z Z Z zbo.out zaG.out.1).mono ?_;rintro e zaf ⟨rfl,zE,P⟩;replace g:=g.S P aw;replace j:=j.S P aw;replace k:=k.S P aw;replace x:=x.S P aw;replace C:=C.S P aw;replace zk:=zk.S P aw;replace zh:=zh.S P aw;replace K:=K.S P aw;replace zak:=zak.S P zba;replace zR:=zR.S P zbv;clear zbU zaT;have zbD:zaf.cell? ⟨zaa,3,none⟩=some (.slice (ab H) n n):=x.au 3;have zaN:zaf.cell? ⟨zx,3,none⟩=some (.slice z.b o.u.length z.cT):=zk.au 3;go_wp2_with fail
   refine(Fj zaf H n n _ z.b o.u.length z.cT o.u zw c.w t w (zaq.out d zaE) rfl zh zak zbs (a' _) zd.kj Z Z Z Z Z Z zaP.out zaG.out.2.1).mono ?_;rintro e zaI ⟨rfl,zac,zf⟩;replace g:=g.S zf aw;replace j:=j.S zf aw;replace k:=k.S zf aw;replace x:=x.S zf aw;replace C:=C.S zf aw;replace zk:=zk.S zf aw;replace zE:=zE.S zf aw;replace K:=K.S zf aw;replace zR:=zR.S zf zbq;clear zbD zaN;have zbn:zaI.cell? ⟨zaa,4,none⟩=some (.slice (ab J) n n):=x.au 4;have zbh:zaI.cell? ⟨zx,4,none⟩=some (.slice z.c o.v.length z.cm):=zk.au 4;go_wp2_with fail
   refine(Fj zaI J n n _ z.c o.v.length z.cm o.v zw c.w t w (zap.out d zaE) rfl K zR zbW (a' _) zd.fO Z Z Z Z Z Z zaP.out zaG.out.2.2).mono ?_;rintro e zal ⟨rfl,za4,zad⟩;replace zE:=zE.S zad aw;replace zac:=zac.S zad aw;clear zbn zbh;have zaC:∀{α:Type}(z6:aq->α),(if d=0 then z6 c else z6 h)=z6 o:=λz6=>by subst zav;split<;>rfl
   have zbA:=Y (show ag zal D 5 (aC (gR O c.w c.h c.y h.y (List.replicate u 0) (d+1))).toArray/\ag zal H 5 (aC (gR c.w t w c.u h.u (List.replicate n 0) (d+1))).toArray/\ag zal J 5 (aC (gR c.w t w c.v h.v (List.replicate n 0) (d+1))).toArray by simp only[gR,zaC aq.y,zaC aq.u,zaC aq.v,<-zZ.out.1,<-zZ.out.2];exact⟨zE,zac,za4⟩);have zbe:=Y ((((zn.out.ad tA).trans (P.mono (x:=[D,H,J]) U) (b3.refl _ _)).trans (zf.mono (x:=[D,H,J]) U) (b3.refl _ _)).trans (zad.mono (x:=[D,H,J]) U) (b3.refl _ _));clear zE zac za4 P zf zad g j k x C zk;go_wp2_with fail
   exact A7 zbA zbe
  .have zbx:d=2:=Z;subst zbx;have zbE:¬(((2:Nat):Int)<2):=Z;have zbj:=Y (show(#[X (c.w:Int),X zi,.slice (ab D) u u,.slice (ab H) n n,.slice (ab J) n n]:Qad)=al (gH c h) (bb (gH c h) D H J) by rw[zaV.out];simp only[al,bb,zaH.out 2 (a' _),zaq.out 2 (a' _),zap.out 2 (a' _)]);go_wp2_with(first|(refine hA aB x rfl rfl rfl ?_)|(refine cv (Q:=#[X (c.w:Int),X zi,.slice (ab D) u u,.slice (ab H) n n,.slice (ab J) n n]) aB k rfl fy rfl rfl rfl rfl ?_;intro zD zk zc zbF))
   obtain⟨zq,zh,K⟩:=zaM.out;have zaw:=za5.out.trans zn.out (λzbp zan=>.inr (by simp at zan;omega));refine bB (eW rfl aB zk rfl) ⟨D,H,J,by rw[zbj.out];rfl,?_⟩;rw[zaV.out];exact⟨zq.S zc aw,zh.S zc aw,K.S zc aw,zaw.own zc Z,Z,Z,Z,zbL,zbO,zbl⟩
structure ao(g:af)(e f:N)(c:bX):Prop where
 aa:V g e f
 b:∀a∈c,ag f a.1 a.2.1 a.2.2
 d:(c.map (·.1)).Nodup
 n:∀a∈c,a.1∈g\/e.heap.size<=a.1
section
variable {l zv:af}{a c n:N}{b:bX}{h:Nat}{T:Qat}{i Q:Qad}
theorem ao.nil(b:af)(a:N):ao b a a []:=⟨V.refl _ _,U,U,U⟩
theorem ao.size(d:ao l a c b):a.heap.size<=c.heap.size:=d.aa.size
theorem ao.lt(e:ao l a c b){d:Nat×TypeId×Array Value}(f:d∈b):d.1<c.heap.size:=(e.b d f).lt
theorem ao.aS(d:ao l a c b)(e:V [] c n):ao l a n b:=⟨d.aa.ad e,λf g=>(d.b f g).S e U,d.d,d.n⟩
theorem ao.bd(d:ao l a c b):ao l a c.drew b:=⟨d.aa.drew,d.b,d.d,d.n⟩
theorem ao.fresh(d:ao l a c b)(i:c.heap.size<=h):h∉b.map (·.1):=λf=>by obtain⟨g,e,rfl⟩:=ca.1 f;exact absurd (d.lt e) Z
theorem ao.aP(e:ao l a c b)(g:ag n h T i)(j:V [] c n)(y:c.heap.size<=h):ao l a n ((h,T,i)::b):=⟨e.aa.ad j,λf d=>by
 rcases bu.1 d with rfl|d
 .exact g
 .exact(e.b f d).S j U,by simpa using⟨λk g m=>e.fresh y (ca.2 ⟨(h,k,g),m,rfl⟩),e.d⟩,λf d=>by
 rcases bu.1 d with rfl|d
 .exact .inr (b7 e.size y)
 .exact e.n f d⟩
theorem ao.add(d:ao l a c b)(j:ag c h T i)(m:h∈l)(k:h∉b.map (·.1)):ao l a c ((h,T,i)::b):=⟨d.aa,λf e=>by
 rcases bu.1 e with rfl|e
 .exact j
 .exact d.b f e,MC,λf e=>by
 rcases bu.1 e with rfl|e
 .exact .inl m
 .exact d.n f e⟩
theorem ao.at_(g:ao l a c b)(f:Nat){d:Nat×TypeId×Array Value}(e:b[f]? =some d):ag c d.1 d.2.1 d.2.2:=g.b d (bS e)
theorem ao.ai(f:ao l a c b)(e:Nat)(d:b[e]? =some (h,T,i)):ag c h T i:=f.b _ (bS d)
theorem ao.au(h:ao l a c b)(f e:Nat){d:Nat×TypeId×Array Value}{v:Qas}(g:b[f]? =some d)(i:d.2.2[e]? =some v):c.cell? ⟨d.1,e,none⟩=some v:=by rw[(h.at_ f g).au,i]
theorem ao.ne(n:ao l a c b)(d f:Nat){e g:Nat×TypeId×Array Value}(j:b[d]? =some e)(i:b[f]? =some g)(m:d≠f):e.1≠g.1:=λo=>by
 have h:(b.map (·.1))[d]? =some e.1:=by rw[fx,j];rfl
 have p:(b.map (·.1))[f]? =some g.1:=by rw[fx,i];rfl
 have k:d<(b.map (·.1)).length:=(e8.1 h).1;exact m ((List.getElem?_inj k n.d).1 (by rw[h,p,o]))
theorem ao.put(d:ao l a c b)(t:Nat)(e:b[t]? =some (h,T,i))(s:ag n h T Q)(m:V [h] c n):ao l a n (b.set t (h,T,Q)):=by
 refine⟨d.aa.trans m (λu o=>by simp at o;subst o;exact d.n _ (bS e)),λp k=>?_,?_,λp k=>?_⟩
 .obtain⟨j,f⟩:=Bc k;by_cases g:t=j
  .subst g;rw[sh (e8.1 e).1]at f;cases f
   exact s
  .rw[qT g]at f;have r:=d.ne t j e f g;exact(d.at_ j f).S m (by simpa using λq=>r q.symm)
 .have:(b.set t (h,T,Q)).map (·.1)=b.map (·.1):=by exact Bd
  rw[this];exact d.d
 .rcases ud k with k|rfl
  .exact d.n p k
  .exact d.n (h,T,i) (bS e)
theorem ao.bk{e:bX}(j:ao l a c b)(d:Nat)(m:ag n h T Q)(k:V [h] c n)(f:b[d]? =some (h,T,i):=by rfl)(g:b.set d (h,T,Q)=e:=by(first|(dsimp only[List.set];done)|rfl)):ao l a n e:=g▸j.put d f m k
theorem ao.ah{v:Qas}(g:ao l a c b)(e d:Nat)(f:b[e]? =some (h,T,i):=by rfl)(j:i[d]? =some v:=by exact yK):c.cell? ⟨h,d,none⟩=some v:=(g.ai e f).ah d j
theorem ao.S(d:ao l a c b)(g:V zv c n)(i:∀k∈zv,k∉b.map (·.1))(h:b3 a l zv):ao l a n b:=⟨d.aa.trans g h,λe f=>(d.b e f).S g (λj=>i _ j (ca.2 ⟨e,f,rfl⟩)),d.d,d.n⟩
theorem ao.drop(d:ao l a c b)(g:Nat):ao l a c (b.drop g):=⟨d.aa,λe f=>d.b e (py f),by rw[List.map_drop];exact d.d.sublist (List.drop_sublist _ _),λe f=>d.n e (py f)⟩
theorem ao.kE{g:aq}{i:Nat}(f:ao l a c b)(d:hW g c i p t n):ao l a n ((i,5,(aC g.y).toArray)::(p,5,(aC g.u).toArray)::(t,5,(aC g.v).toArray)::b):=⟨f.aa.ad d.S,λh e=>by
 simp only[bu]at e;rcases e with rfl|rfl|rfl|e
 .exact d.y
 .exact d.u
 .exact d.v
 .exact(f.b h e).S d.S U,by
 have k:=f.fresh d.iG;have m:=f.fresh d.lH;have j:=f.fresh d.lI;simp only[cj,jJ,bu,kd];exact⟨⟨d.k',d.ac,k⟩,⟨d.dp,m⟩,j,f.d⟩,λh e=>by
 simp only[bu]at e;have:=f.size;rcases e with rfl|rfl|rfl|e
 .exact .inr (b7 this d.iG)
 .exact .inr (b7 this d.lH)
 .exact .inr (b7 this d.lI)
 .exact f.n h e⟩
theorem ao.y3(e:ao l a c b)(o:ag n za zq zj)(k:ag n zi zr zl)(g:V [] c n)(i:c.heap.size<=za)(h:c.heap.size<=zi)(p:za≠zi):ao l a n ((za,zq,zj)::(zi,zr,zl)::b):=⟨e.aa.ad g,λf d=>by
 simp only[bu]at d;rcases d with rfl|rfl|d
 .exact o
 .exact k
 .exact(e.b f d).S g U,by
 have j:=e.fresh i;have m:=e.fresh h;simp only[cj,jJ,bu,kd];exact⟨⟨p,j⟩,m,e.d⟩,λf d=>by
 simp only[bu]at d;have:=e.size;rcases d with rfl|rfl|d
 .exact .inr (b7 this i)
 .exact .inr (b7 this h)
 .exact e.n f d⟩
theorem ao.fg{r:aq}{f:Nat}(e:ao l a c b)(d:Nat)(h:b[d]? =some (f,5,(aC r.y).toArray))(i:b[d+1]? =some (p,5,(aC r.u).toArray))(g:b[d+2]? =some (t,5,(aC r.v).toArray)):aT c r (bb r f p t):=⟨aF.aP (e.at_ d h),aF.aP (e.at_ _ i),aF.aP (e.at_ _ g),a' _,a' _,a' _⟩
theorem ao.back{e:aq}{o:Nat}(d:ao [] a c b)(g k m:Nat)(h:b[g]? =some (o,5,(aC e.y).toArray))(i:b[k]? =some (p,5,(aC e.u).toArray))(f:b[m]? =some (t,5,(aC e.v).toArray))(j:g≠k/\g≠m/\k≠m):hW e a o p t c:=
 have l:∀{n},n∈b->a.heap.size<=n.1:=λq=>(d.n _ q).resolve_left U
 ⟨d.at_ g h,d.at_ _ i,d.at_ _ f,d.aa,l (bS h),l (bS i),l (bS f),d.ne _ _ h i j.1,d.ne _ _ h f j.2.1,d.ne _ _ i f j.2.2⟩
structure ic(g:af)(e f:N)(c:bX)(b:af):Prop where
 d:∀a∈b,a∉c.map (·.1)
 n:∀a∈b,a∈g\/e.heap.size<=a
 l:∀a∈b,a<f.heap.size
variable {P G:af}
theorem ic.aS(d:ic l a c b P)(g:c.heap.size<=n.heap.size):ic l a n b P:=⟨d.d,d.n,λe f=>gD (d.l e f) g⟩
theorem ic.aP(d:ic l a c b P)(j:c.heap.size<=n.heap.size)(y:c.heap.size<=h):ic l a n ((h,T,i)::b) P:=⟨λe f=>by have g:=d.d e f;have k:=d.l e f;simp only[cj,bu,kd];exact⟨Z,g⟩,d.n,λe f=>gD (d.l e f) j⟩
theorem ic.nil(d:af)(a c:N)(b:bX):ic d a c b []:=⟨U,U,U⟩
theorem ic.made(g:ao l a c b)(f:∀d∈P,c.heap.size<=d)(h:∀d∈P,d<n.heap.size):ic l a n b P:=⟨λd e=>g.fresh (f d e),λd e=>.inr (b7 g.size (f d e)),h⟩
theorem ic.grow(h:ao l a c b)(g:ic l a c b P)(k:V P c n)(i:b3 c P G)(j:∀d∈G,d<n.heap.size):ao l a n b/\ic l a n b G:=⟨h.S k g.d (λd f=>g.n d f),λd f=>by
 rcases i d f with e|e
 .exact g.d d e
 .exact h.fresh e,λd f=>by
 rcases i d f with e|e
 .exact g.n d e
 .exact .inr (b7 h.size e),j⟩
theorem ic.off(f:ic l a c b P)(i:h∈b.map (·.1)):∀d∈P,d∉[h]:=λd g e=>by simp at e;subst e;exact f.d d g i
end
structure Be(c:N)(e g:Qat)(h f:Qad)(b a:Nat)(d:N):Prop where
 si:ag d b e h
 Zv:ag d a g f
 aa:V [] c d
 MD:c.heap.size<=b
 ME:c.heap.size<=a
 ne:b≠a
theorem w0{h:Qaq}(e i:Tmp)(l n:Qat)(o j:Qad) (p:∀a b d,Be c l n o j a b d->u ((g.put (some e) (ab a)).put (some i) (ab b)) d) (s:hS [] k zp m zo (λt d=>∃a b,Be c l n o j a b d/\t=(g.put (some e) (ab a)).put (some i) (ab b)) f h g c):hS [] k zp m zo u f h g c:=y' (λ_ _ ⟨_,_,r,q⟩=>q▸p _ _ _ r) _ _ _ _ s
theorem ao.two{d:N}(e:ao l d c b)(a:Be c zq zr zj zl za zi n):ao l d n ((za,zq,zj)::(zi,zr,zl)::b):=e.y3 a.si a.Zv a.aa a.MD a.ME a.ne
structure qU(e:af)(d wr:N)(c:bX)(a b f:Nat)(g:af)(v:Qas):Prop where
 v:v=.slice (ab a) b f
 lM:ao e d wr c
 own:wr.ownsRow 0 5 1 (.slice (ab a) b f) b (aC g)
 MF:ic e d wr c [a]
theorem qU.fR{f wr:N}{a e:Nat}{c:af}(g:qU l f wr b a d r c v)(h:V [] wr W)(k:V [a] W O) (i:O.ownsRow 0 5 1 (.slice (ab a) (d+1) r) (d+1) (aC c++[.int .u8 (e:Int)])):qU l f O b a (d+1) r (c++[e]) (.slice (ab a) (d+1) r):=by obtain⟨m,j⟩:=ic.grow (G:=[a]) (g.lM.aS h) (g.MF.aS h.size) k (b3.refl _ _) (yM i);exact⟨rfl,m,by simpa[aC]using i,j⟩
theorem qU.made{a:N}(d:ao l a c b)(own:n.ownsRow 0 5 1 (.slice (some ⟨c.heap.size,0,none⟩) 0 r) 0 [])(e:V [] c n):qU l a n b c.heap.size 0 r [] (.slice (some ⟨c.heap.size,0,none⟩) 0 r):=⟨rfl,d.aS e,own,ic.made d U (yM own)⟩
theorem Zw(b:N)(d:Qas)(e:Qat):∀a v,[d][a]? =some v->(b.alloc (.cells #[d] e)).cell? ((⟨b.heap.size,0,none⟩:Qay).add a)=some v:=λa v c=>by
 cases a with
 |zero=>have:=(ag.aP b e #[d]).au 0;rw[ox];simp at c;subst c;exact this
 |succ a=>simp at c
theorem V.fR{a:Nat}(e:V [a] c W)(b:W.grownBy n (some a)):V [a] c n:=e.grown b (λf d=>.inl (by simpa using d.symm))
def bQ(a b:Int):Qad:=#[X a,X b]
theorem dI:bT prog 225 2:=⟨_,underlying225,rfl,ar⟩
theorem Zx(b c:Int)(m:-63<=b)(p:b<=63)(l:-63<=c)(k:c<=63):Calls prog 231 #[bQ b c] a λg i=>g=.returned (.bool true)/\V [] a i:=by
 go_in;go_wp2_with(refine cx _ (bQ b c) rfl rfl rfl rfl ?_;intro d e f h j;have o:e.cell? ⟨d,0,none⟩=some (.int .i64 b):=f.au 0;have n:e.cell? ⟨d,1,none⟩=some (.int .i64 c):=f.au 1)
 go_ret;exact⟨rfl,h⟩
def eP(v:Int)(a:Nat):Nat:=if(a:Int)-1<(if(0:Int)>v then 0 else v)then a-1 else(if(0:Int)>v then 0 else v).toNat
theorem ue(v:Int){a:Nat}(b:1<=a):eP v a<a:=by unfold eP;split<;>split<;>omega
theorem Zy(v:Int)(b:Nat)(m:1<=b)(n:b<=64):Calls prog 251 #[X v,X b] a λf l=>f=.returned (X (eP v b:Int))/\a=l:=by
 refine MG λc e d j i g h=>?_;go_in;go_wp2_with(first|(refine lL v 0 c g.out rfl rfl rfl rfl ?_)|(refine A9 c d (eP v b:Int) h.out rfl rfl rfl rfl ?_))
 go_ret;exact⟨rfl,rfl⟩
theorem Bf(v:Int)(a:Nat)(e:1<=a)(f:a<=64)(b:N):Calls prog 251 #[X v,X a] b λd g=>d=.returned (X (eP v a:Int))/\V [] b g:=(Zy b v a e f).mono λ_ _ c=>⟨c.1,c.2▸V.refl _ _⟩
def pI(e:af)(a c:Nat)(g f:Int)(b d:Int):Nat:=(e.getD (eP d c*a+eP b a) 0+e.getD (eP d c*a+eP (b+g) a) 0+e.getD (eP (d+f) c*a+eP b a) 0+e.getD (eP (d+f) c*a+eP (b+g) a) 0+2)/4
theorem Bg{a:Nat}(c b:Int)(e:1<=a)(f:1<=q):eP b q*a+eP c a<a*q:=by have h:=ue c e;have g:=ue b f;have d:(eP b q+1)*a<=q*a:=ix _ g;rw[ia,eF q a]at d;omega
theorem Zz(ze zp zr zu aA:Nat)(zae zan z7 z6 zah:Qat)(c f:Nat)(C D o k:Int)(zL:Qae)(zS:Nat)(g:af)(B:1<=c)(J:c<=64)(z:1<=f)(zF:f<=64)(zM:g.length=c*f)(zO:∀v∈g,v<256)(zau:0<=C/\C<=1)(zaN:0<=D/\D<=1)(zay:-4096<=o/\o<=4096)(zaI:-4096<=k/\k<=4096) (i:ag a ze zae #[X c]) (m:ag a zp zan #[X C]) (l:ag a zr z7 #[X f]) (j:ag a zu z6 #[X D]) (h:ag a aA zah #[.slice zL (c*f) zS]) (zT:aF a zL 1 (c*f) (aC g)):Calls prog 250 #[X o,X k,ab ze,ab zp,ab zr,ab zu,ab aA] a λe zai=>e=.returned (.int .u8 (pI g c f C D o k:Int))/\V [] a zai:=by
 have zQ:=Y zT;have zP:=Y zM;have zaf:=Y zO;obtain⟨u,y⟩:∃u,u=c*f:=⟨_,rfl⟩;have zao:c*f<=64*64:=eL J zF;rw[<-y]at zQ zP h zao;refine aG (o+C) λzj zaj=>?_;refine aG (k+D) λL zac=>?_;refine aG (eP o c) λE za=>?_;refine aG (eP zj c) λF zc=>?_;refine aG (eP k f*c) λd K=>?_;refine aG (eP L f*c) λA I=>?_;have zx:=Bg o k B z;have zv:=Bg zj k B z;have zA:=Bg o L B z;have zq:=Bg zj L B z;have zw:=Y (show pI g c f C D o k=(g.getD (d+E) 0+g.getD (d+F) 0+g.getD (A+E) 0+g.getD (A+F) 0+2)/4 by unfold pI;rw[zaj,zac,za,zc,K,I]);rw[za,K,<-y]at zx;rw[zc,K,<-y]at zv;rw[za,I,<-y]at zA;rw[zc,I,<-y]at zq;have zI:=Y (Bf o c B J);have zW:=Y (Bf zj c B J);have zJ:=Y (Bf k f z zF);have z1:=Y (Bf L f z zF);rw[za]at zI;rw[zc]at zW;refine aG (eP k f) λzam zV=>?_;refine aG (eP L f) λzab zU=>?_;rw[zV]at zJ K;rw[zU]at z1 I;have zaw:(zam:Int)*(c:Int)=(d:Int):=by rw[<-K];push_cast;rfl
 have zaz:(zab:Int)*(c:Int)=(A:Int):=by rw[<-I];push_cast;rfl
 have zd:∀n,n<u->∃v,g[n]? =some v/\g.getD n 0=v/\v<256:=λn z'=>by
  have zC:n<g.length:=by rw[zP.out];exact z'
  exact⟨g[n],cu zC,by rw[b9,cu zC];rfl,zaf.out _ (la zC)⟩
 obtain⟨zz,zk,zR,zaK⟩:=zd _ zx;obtain⟨zo,zl,zZ,zap⟩:=zd _ zv;obtain⟨zn,zi,zH,zaA⟩:=zd _ zA;obtain⟨g',zf,zN,hg⟩:=zd _ zq;rw[zR,zZ,zH,zN]at zw;have zh:=Y (And.intro zk (And.intro zl (And.intro zi zf)));have zaJ:=Y y;have zK:1*1<=c*f:=eL B z;have zaB:1<=u:=by rw[y];exact zK
 clear zT zM zO za zc K I zV zU zd zk zl zi zf zR zZ zH zN zK y;go_in;go_wp2_with fail
 have z8:a.cell? ⟨ze,0,none⟩=some (.int .i64 (c:Int)):=i.au 0;have zal:a.cell? ⟨zp,0,none⟩=some (.int .i64 C):=m.au 0;refine rg [] [0,1,3,4,5,6,102,107,8,9] ?_;refine ax ?_;refine bN (zI.out _) ?_;refine A5 λJ w=>?_;replace i:=i.drew.S w U;replace m:=m.drew.S w U;replace l:=l.drew.S w U;replace j:=j.drew.S w U;replace h:=h.drew.S w U;have zaF:a.heap.size<=J.heap.size:=w.size;refine bN (zW.out _) ?_;rintro e O ⟨rfl,t⟩;refine⟨_,rfl,t,?_⟩;replace i:=i.S t U;replace m:=m.S t U;replace l:=l.S t U;replace j:=j.S t U;replace h:=h.S t U;have zav:J.heap.size<=O.heap.size:=t.size;refine ax ?_;clear z8 zal;go_wp2_with fail
 have zaa:O.cell? ⟨zr,0,none⟩=some (.int .i64 (f:Int)):=l.au 0;have zag:O.cell? ⟨ze,0,none⟩=some (.int .i64 (c:Int)):=i.au 0;have zak:O.cell? ⟨zu,0,none⟩=some (.int .i64 D):=j.au 0;refine rg [] [0,1,3,5,6,7,8,10,102,4,109,11,12,13] ?_;refine ax ?_;refine bN (zJ.out _) ?_;rintro e zY ⟨rfl,q⟩;refine⟨_,rfl,q,?_⟩;replace i:=i.drew.S q U;replace m:=m.drew.S q U;replace l:=l.drew.S q U;replace j:=j.drew.S q U;replace h:=h.drew.S q U;have zaC:O.heap.size<=zY.heap.size:=q.size;refine ax ?_;refine bN (z1.out _) ?_;rintro e G ⟨rfl,r⟩;refine⟨_,rfl,r,?_⟩;replace i:=i.S r U;replace m:=m.S r U;replace l:=l.S r U;replace j:=j.S r U;replace h:=h.S r U;have zas:zY.heap.size<=G.heap.size:=r.size;refine ax ?_;clear zaa zag zak;go_wp2_with fail
 obtain⟨zb,P,rfl,Q⟩:=(zQ.out.ad (((((((V.refl [] _).drew.ad w).ad t)).drew.ad q).ad r))).plain Z Z;have W:∀(n v:Nat),g[n]? =some v->(aC g)[n]? =some (Value.int .u8 (v:Int)):=λn v f=>by simp[aC,f]
 refine aG (d+E) λzy zE=>?_;refine aG (d+F) λaU zG=>?_;refine aG (A+E) λzB zt=>?_;refine aG (A+F) λzD zs=>?_;have zk:G.cell? ⟨zb,P+zy,none⟩=some (.int .u8 (zz:Int)):=zE▸Q _ _ (W _ _ zh.out.1);have zl:G.cell? ⟨zb,P+aU,none⟩=some (.int .u8 (zo:Int)):=zG▸Q _ _ (W _ _ zh.out.2.1);have zi:G.cell? ⟨zb,P+zB,none⟩=some (.int .u8 (zn:Int)):=zt▸Q _ _ (W _ _ zh.out.2.2.1);have zf:G.cell? ⟨zb,P+zD,none⟩=some (.int .u8 (g':Int)):=zs▸Q _ _ (W _ _ zh.out.2.2.2);have zaq:(d:Int)+(E:Int)=(zy:Int):=Z;have zaG:(d:Int)+(F:Int)=(aU:Int):=Z;have zaD:(A:Int)+(E:Int)=(zB:Int):=Z;have zaH:(A:Int)+(F:Int)=(zD:Int):=Z;rw[zE]at zx;rw[zG]at zv;rw[zt]at zA;rw[zs]at zq;have zaM:(zy:Int)<(u:Int):=Z;have zaE:(aU:Int)<(u:Int):=Z;have zar:(zB:Int)<(u:Int):=Z;have zaL:(zD:Int)<(u:Int):=Z;obtain⟨zm,zX⟩:∃zm:Nat,zm=(zz+zo+zn+g'+2)/4:=⟨_,rfl⟩;have zat:((zz:Int)+(zo:Int)+(zn:Int)+(g':Int)+2)/4=(zm:Int):=Z;have zax:zm<256:=Z;rw[<-zX]at zw;clear Q W zE zG zt zs zX;have zad:G.cell? ⟨aA,0,none⟩=some (.slice (some ⟨zb,P,none⟩) u zS):=h.au 0;refine rg [] [0,1,2,3,4,5,6,7,8,9,10,11,12,13,14,15,16,17,18,19,20,21,22,23,24,25,26,27,28,29,30,31] ?_;refine Xf ?_;replace i:=i.drew;replace m:=m.drew;replace l:=l.drew;replace j:=j.drew;replace h:=h.drew;refine ax ?_;clear zk zl zi zf;clear zad;go_wp2_with fail
 go_ret;exact⟨by rw[zw.out];rfl,(((((((V.refl [] _).drew.ad w).ad t)).drew.ad q).ad r)).drew⟩
theorem ZA(a:N){n:Qak}{o:Qal}{d:Qax}{c:Act}{m:Qaa} (x:d.guard=none) (p l:Qau) (h:Qat) (t:d.op=Op.makeSlice h p l) (f:Qat) (g:TypeInfo) (b:Qas) (u:k.underlying h=some (.slice f)) (A:k.info? f=some g) (E:g.zero=some b) (z:g.size=1) (D:b.cells=#[b]) (e:Nat) (y:c.eval p=X 0) (s:c.eval l=X e) (G:g.bytes*e<=281474976710656) (i:e<=maxLen) (C:∀j,j.ownsRow 0 f 1 (.slice (some ⟨a.heap.size,0,none⟩) 0 e) 0 []->V [] a j->wpList k n m o (c.put d.dst (.slice (some ⟨a.heap.size,0,none⟩) 0 e)) j):wpList k n m (d::o) c a:=by
 refine jq x λF B=>?_;have w:(g.bytes:Int)*(e:Int)<=281474976710656:=by exact DL
 have r:=run_make (P:=k) a h f g b u A E .i64 .i64 0 (e:Int) Z Z w yO;rw[z,gx,tb b D]at r;unfold Oper.wp;simp only[execOp,t,y,s,r,Result.andThen,eS,iW];refine B _ _ (C _ ?_ ((V.refl _ _).alloc _));exact World.ownsRow_made a _ e (jo _) i U
def i7(j:af)(f g:Nat)(d a:Int)(e i b h:Nat):af:=(List.range h).map λc=>pI j f g (d%2) (a%2) ((e:Int)+((c%b:Nat):Int)+d/2) ((i:Int)+((c/b:Nat):Int)+a/2)
theorem Fl(i:af)(d f:Nat)(g c:Int)(b h e a:Nat):(i7 i d f g c b h e a).length=a:=by simp[i7]
theorem ZB(j:af)(g h:Nat)(e d:Int)(f i:Nat){a b c:Nat}(k:b<a):i7 j g h e d f i a (c*a+b+1)=i7 j g h e d f i a (c*a+b)++[pI j g h (e%2) (d%2) ((f:Int)+(b:Int)+e/2) ((i:Int)+(c:Int)+d/2)]:=by
 have l:(c*a+b)%a=b:=by rw[eF,Nat.mul_add_mod];exact r0 k
 have m:(c*a+b)/a=c:=by rw[eF,Nat.mul_add_div Z,rZ k,fs]
 simp only[i7,mm,hf,cj,ee,l,m]
theorem MH(i:∀v∈y,v<256)(a c:Nat)(g f b d:Int):pI y a c g f b d<256:=by
 have e:∀h,y.getD h 0<256:=λh=>by
  rw[b9];cases j:y[h]? with
  |none=>simp
  |some v=>exact i v (bS j)
 unfold pI;have l:=e (eP d c*a+eP b a);have n:=e (eP d c*a+eP (b+g) a);have k:=e (eP (d+f) c*a+eP b a);have m:=e (eP (d+f) c*a+eP (b+g) a);omega
theorem Fm(c:∀v∈y,v<256)(d f:Nat)(g b:Int)(a i e h:Nat):∀v∈i7 y d f g b a i e h,v<256:=λv j=>by obtain⟨k,_,rfl⟩:=ca.1 j;exact MH c _ _ _ _ _ _
theorem ZC{d:Nat}(b:c.ownsRow 0 e 1 (.slice (ab d) f f) f zh):ag c d e zh.toArray:=by
 obtain⟨_,b|⟨m,bH,k,i,_,j,_,_,l,h⟩⟩:=b
 .cases b.1
 .injection i with a _ g;injection a with a;injection a with a;subst a g;have:k=zh.toArray:=by rw[<-h,ml (by simp[l])]
  exact this▸j
theorem ZD:∀a:Fin 127,bits BinOp.and IntKind.i64 ((a.val:Int)-63) 1=((a.val:Int)-63)%2:=R
theorem MI{v:Int}(b:-63<=v)(a:v<=63):bits BinOp.and IntKind.i64 v 1=v%2:=by have:=ZD ⟨(v+63).toNat,Z⟩;rwa[show(((⟨(v+63).toNat,Z⟩:Fin 127).val:Int)-63)=v by show((v+63).toNat:Int)-63=v;omega]at this
def mU(b c a d:Nat):Qad:=#[X b,X c,X a,X d]
theorem w1:bT prog 350 4:=⟨_,underlying350,rfl,ar⟩
theorem Fo(E:Qae)(W:Nat)(r:af)(f e m l c j:Nat)(i h:Int)(zQ:1<=f)(zj:f<=64)(z6:1<=e)(zav:e<=64)(zc:r.length=f*e)(zf:∀v∈r,v<256)(zaH:m<=64)(zaC:l<=64)(zaB:1<=c)(zal:c<=16)(z7:j<=16)(zak:-63<=i)(zar:i<=63)(zaz:-63<=h)(zZ:h<=63)(zV:aF a E 1 (f*e) (aC r)):Calls prog 232 #[.slice E (f*e) W,X f,X e,mU m l c j,bQ i h] a (wP (i7 r f e i h m l c (j*c)) a):=by
 obtain⟨zU,zA,zah,zD,G⟩:=k8 kB;refine wq λO=>?_;obtain⟨H,zh⟩:∃H,H=f*e:=⟨_,rfl⟩;obtain⟨w,L⟩:∃w,w=j*c:=⟨_,rfl⟩;have zaT:w<=16*16:=by rw[L];exact eL z7 zal
 have zaK:(c:Int)*(j:Int)=(w:Int):=by rw[L,eF];push_cast;rfl
 have zS:=Y zV;have zam:=Y zc;have zR:=Y zf;have zas:=Y zh;have zG:=Y L;have z1:=zQ;have z8:=zj;obtain⟨u,zp⟩:∃p,p=i%2:=⟨_,rfl⟩;obtain⟨s,zu⟩:∃p,p=h%2:=⟨_,rfl⟩;obtain⟨y,zt⟩:∃p,p=i/2:=⟨_,rfl⟩;obtain⟨I,zq⟩:∃p,p=h/2:=⟨_,rfl⟩;have zaN:bits BinOp.and IntKind.i64 i 1=u:=by rw[MI zak zar,zp]
 have zaJ:bits BinOp.and IntKind.i64 h 1=s:=by rw[MI zaz zZ,zu]
 have zi:0<=u/\u<=1:=Z;have C:0<=s/\s<=1:=Z;have zv:-32<=y/\y<=32:=Z;have zn:-32<=I/\I<=32:=Z;have zb:=Y (And.intro zp (And.intro zu (And.intro zt zq)));have zaE:i/2=y:=zt.symm;have zaA:h/2=I:=zq.symm;rw[<-zh,<-L];rw[<-zh]at zS;clear zV zc zf zh L zp zu zt zq;have b:=ao.nil [] a;go_in;go_wp2_with(first|(refine cx _ (#[.slice E H W]) rfl rfl rfl rfl ?_;intro zs zQ zi zX zW;replace b:=b.aP zi zX zW;clear zi zX;clear zW)|(refine cx _ (#[X f]) rfl rfl rfl rfl ?_;intro zx zj C J zT;replace b:=b.aP C J zT;clear C J;clear zT)|(refine cx _ (#[X e]) rfl rfl rfl rfl ?_;intro zk zo zv Q zY;replace b:=b.aP zv Q zY;clear zv Q;clear zY)|(refine cx _ (mU m l c j) rfl rfl rfl rfl ?_;intro F zay zn zC zK;replace b:=b.aP zn zC zK;clear zn zC;clear zK)|(refine cx _ (bQ i h) rfl rfl rfl rfl ?_;intro ze zag zH zI zP;replace b:=b.aP zH zI zP;clear zH zI;clear zP))
 replace b:=b.bd;have zac:=b.ah 0 0;have zaw:=b.ah 0 1;refine wh (x:=[]) [0,1,2,3,4,5] 4 ar ar ar rfl ?_;simp only[ga,nth,Nat.reduceMod,Nat.reduceDiv,cz,dv,c'];refine ax ?_;have n:=V.refl [] zag.drew;refine w0 11 12 3 3 #[X u] #[X s] (λzl zz zaa zE=>?_) ?_;rotate_left;repeat' (first|(refine gb (l:=6) rfl λB q=>?_;(try have zaF:=z.lt);have zaR:=n.size;refine cw (X 0) #[X 0] rfl rfl ar rfl ?_;intro aA zm x t zaL;(try replace z:=z.S t U);replace n:=n.ad t;refine q _ _ n ?_;clear q B;simp only[Act.put,cb,cK,cQ])|(refine gb (l:=7) rfl λB q=>?_;(try have zaQ:=x.lt);have zaD:=n.size;refine cw (X 0) #[X 0] rfl rfl ar rfl ?_;intro zat zm z t zaI;(try replace x:=x.S t U);replace n:=n.ad t;refine q _ _ n ?_;clear q B;simp only[Act.put,cb,cK,cQ])|(refine gb (l:=8) rfl λB q=>?_;refine eI (X u) rfl rfl rfl rfl x R ar rfl ?_;intro zm (P:ag _ _ _ #[X u]) t y;replace n:=n.own t Z;(try replace z:=z.S t aw);replace x:=P;clear P;refine q _ _ n ?_;clear q B;try simp only[Act.put,cb,cK,cQ])|(refine gb (l:=9) rfl λB q=>?_;refine eI (X s) rfl rfl rfl rfl z R ar rfl ?_;intro zm (P:ag _ _ _ #[X s]) t y;replace n:=n.own t Z;(try replace x:=x.S t aw);replace z:=P;clear P;refine q _ _ n ?_;clear q B;try simp only[Act.put,cb,cK,cQ])|refine c8 6 [7] bm (bf.2 ⟨?_,bf.2 ⟨?_,U⟩⟩)|refine c8 6 [9] bm (bf.2 ⟨?_,bf.2 ⟨?_,U⟩⟩)|refine c8 7 [8] bm (bf.2 ⟨?_,bf.2 ⟨?_,U⟩⟩)|refine c8 8 [9] bm (bf.2 ⟨?_,bf.2 ⟨?_,U⟩⟩)|refine c8 6 [] bm (bf.2 ⟨?_,U⟩)|refine c8 7 [] bm (bf.2 ⟨?_,U⟩)|refine c8 8 [] bm (bf.2 ⟨?_,U⟩)|refine c8 9 [] bm (bf.2 ⟨?_,U⟩)|(refine rQ bm ?_ _;exact⟨aA,zat,⟨x,z,n,Z,Z,Z⟩,rfl⟩))
 simp only[Act.put,cb,cK,cQ];replace b:=b.two zE;clear zE zac zaw;have zae:=b.ah 3 2;have zao:=b.ah 3 3;go_wp2_with(refine ZA _ rfl _ _ 57 rfl 5 zU (.int .u8 0) underlying57 zA zah zD rfl w rfl rfl ng ib ?_;intro zj C J;clear zae zao;have zr:=qU.made b C J;clear b C J;generalize zaa.heap.size=K at*;have za:zj.cell? ⟨F,3,none⟩=some (.int .i64 (j:Int)):=zr.lM.au 3 3 rfl rfl)
 have zJ:=Y zr;clear zr za;go_loopw [14,32] (λv A wr=>∃g:Nat,g<=j/\A=X g/\Hid (qU [] a wr [(zl,3,#[X u]),(zz,3,#[X s]),(ze,225,bQ i h),(F,350,mU m l c j),(zk,3,#[X e]),(zx,3,#[X f]),(zs,57,#[.slice E H W])] K (g*c) w (i7 r f e i h m l c (g*c)) v)) (λ_ A _=>j-(intOf A).toNat)
 .exact⟨0,Z,rfl,by rw[Nat.zero_mul];exact zJ⟩
 .obtain⟨g,zaS,rfl,D⟩:=hrel;clear zJ;by_cases zf:g<j
  .have zab:(g:Int)<(j:Int):=Z;have za:wr.cell? ⟨F,2,none⟩=some (.int .i64 (c:Int)):=D.out.lM.au 3 2 rfl rfl;obtain rfl:=D.out.v;go_wp2_with fail
   clear za;obtain⟨zL,rfl⟩:∃zL:N,zL=wr:=⟨_,rfl⟩;go_loopw [14,37] (λv A wr=>∃k:Nat,k<=c/\A=X k/\Hid (qU [] a wr [(zl,3,#[X u]),(zz,3,#[X s]),(ze,225,bQ i h),(F,350,mU m l c j),(zk,3,#[X e]),(zx,3,#[X f]),(zs,57,#[.slice E H W])] K (g*c+k) w (i7 r f e i h m l c (g*c+k)) v)) (λ_ A _=>c-(intOf A).toNat)
   .exact⟨0,Z,rfl,D⟩
   .obtain⟨k,zaM,rfl,o⟩:=hrel;obtain rfl:=o.out.v;by_cases zap:k<c
    .have zaq:(k:Int)<(c:Int):=Z;have za:wr.cell? ⟨F,0,none⟩=some (.int .i64 (m:Int)):=o.out.lM.au 3 0 rfl rfl;have zax:wr.cell? ⟨F,1,none⟩=some (.int .i64 (l:Int)):=o.out.lM.au 3 1 rfl rfl;have zan:wr.cell? ⟨ze,0,none⟩=some (.int .i64 i):=o.out.lM.au 2 0 rfl rfl;have zai:wr.cell? ⟨ze,1,none⟩=some (.int .i64 h):=o.out.lM.au 2 1 rfl rfl;go_wp2_with fail
     clear za zax zan zai;have zy:f*e=H:=zas.out.symm;refine(Zz wr zx zl zk zz zs _ _ _ _ _ f e u s ((m:Int)+(k:Int)+y) ((l:Int)+(g:Int)+I) E W r z1 z8 z6 zav zam.out zR.out zi C Z Z (o.out.lM.at_ 5 rfl) (o.out.lM.at_ 0 rfl) (o.out.lM.at_ 4 rfl) (o.out.lM.at_ 1 rfl) (by rw[zy];exact o.out.lM.at_ 6 rfl) (by rw[zy];exact zS.out.ad o.out.lM.aa)).mono ?_;rintro zaG zo ⟨rfl,Q⟩;clear zy;obtain⟨p,zw⟩:∃p,p=pI r f e u s ((m:Int)+(k:Int)+y) ((l:Int)+(g:Int)+I):=⟨_,rfl⟩;rw[<-zw];have zaO:(p:Int)<256:=by have:=MH zR.out f e u s ((m:Int)+(k:Int)+y) ((l:Int)+(g:Int)+I);omega
     have zO:p=pI r f e (i%2) (h%2) ((m:Int)+(k:Int)+i/2) ((l:Int)+(g:Int)+h/2):=by rw[zw,zb.out.1,zb.out.2.1,zb.out.2.2.1,zb.out.2.2.2]
     have zaj:=Y zO;have zF:=Y Q;have zaf:g*c+k+1<=w:=by have zau:(g+1)*c<=j*c:=ix _ zf;rw[ia]at zau;rw[zG.out];omega
     clear zw zO Q;have zad:=Y (qq o.out.own zF.out U);go_wp2_with(at_builtin;refine wpList_append_fits _ rfl _ _ 57 rfl 0 5 zU 1 underlying57 zA zD _ _ _ _ rfl (zad.out.alloc _) ⟨zo.heap.size,0,none⟩ 1 1 [.int .u8 (p:Int)] rfl rfl (Zw _ _ _) fy zaf ?_;intro zay zB zN;have z':=Y (o.out.fR zF.out (V.fR ((V.refl [K] zo).alloc _) zN) zB);clear zB zN)
     go_roundw
     .exact⟨k+1,Z,a8,by rw[<-gk,ZB r f e i h m l zap,<-zaj.out];exact z'⟩
     .simp[intOf];omega
    .have zaq:¬((k:Int)<(c:Int)):=Z;obtain rfl:k=c:=Z;go_wp2_with fail
     go_roundw
     .exact⟨g+1,Z,a8,by rw[ia];exact o⟩
     .simp[intOf];omega
  .have zab:¬((g:Int)<(j:Int)):=Z;obtain rfl:g=j:=Z;obtain rfl:=D.out.v;go_wp2_with fail
   go_ret;have zM:=D.out.own;rw[<-zG.out]at zM⊢;have zc:=Fl r f e i h m l c w;exact⟨K,by rw[zc];rfl,ZC zM,D.out.lM.aa,(D.out.MF.n K U).resolve_left U⟩
section
variable {k:Qav}{m:Qak}{D:Qal}{o:Qax}{g:Act}{c:N}{u:Qaa}{w C:Qau}{T B:Qat}{h x:Nat}{i:Qad}
theorem dO(j:o.op=.load T w)(b:ag c h B i)(a:bT k T i.size)(f:cB o m g)(e:g.eval w=ab h)(d:wpList k m u D (g.put o.dst (i)) c):wpList k m u (o::D) g c:=mq a b f j e d
theorem de(aL:Qad)(n:o.op=.load T w)(b:bT k T aL.size)(d:ag c h B i)(j:∀a,a<aL.size->i[x+a]? =aL[a]?)(f:cB o m g)(l:g.eval w=.pointer (some ⟨h,x,none⟩))(e:wpList k m u D (g.put o.dst (aL)) c):wpList k m u (o::D) g c:=r9 b d j f n l e
end
def hB(c:Nat->Bool)(b:aj)(a:Nat):Qas:=if c a then .bool (b a !=0)else X (b a)
def ie(c:Nat->Bool)(b:Nat)(a:aj):Qad:=((List.range b).map (hB c a)).toArray
section
variable {p:Nat->Bool}{f:Nat}{F zk:aj}
theorem gI:(ie p f F).size=f:=by simp[ie]
theorem pJ(a:s<f):(ie p f F)[s]? =some (hB p F s):=by simp[ie,a]
theorem w2(a:s<f)(b:p s=false):(ie p f F)[s]? =some (.int .i64 (F s)):=by rw[pJ a,hB,b];rfl
theorem MJ(a:s<f)(b:p s=true):(ie p f F)[s]? =some (.bool (F s !=0)):=by rw[pJ a,hB,b];rfl
theorem ZE(b:∀a,a<f->hB p F a=hB p zk a):ie p f F=ie p f zk:=by unfold ie;congr 1;exact oC λa c=>b a vQ
theorem eY(c:∀a,a<f->F a=zk a):ie p f F=ie p f zk:=ZE λa b=>by unfold hB;rw[c a b]
theorem ZF:(ie p f F).all (·.oneCell')=true:=by rw[kw];intro v a;simp[ie]at a;obtain⟨b,_,rfl⟩:=a;unfold hB;split<;>rfl
theorem MK(a:E:=by
 rw[M a];by_cases c:b<f
 .rw[pJ c,pJ c];simp[hB,aV,hv a]
 .rw[hP uf,hP uf]):E:=a
theorem ni(v:Int)(d:s<f)(e:p s=false):(ie p f F).setIfInBounds s (X v)=ie p f (aV F s v):=by
 apply kc;intro b;rw[qu];by_cases a:s=b
 .subst a;rw[ae rfl,ae (by rw[gI];exact d),w2 d e,aV,ae rfl]
 .exact MK
theorem oP(v:Bool)(d:s<f)(e:p s=true):(ie p f F).setIfInBounds s (.bool v)=ie p f (aV F s v.toInt):=by
 apply kc;intro b;rw[qu];by_cases a:s=b
 .subst a;rw[ae rfl,ae (by rw[gI];exact d),MJ d e,aV,ae rfl];cases v<;>rfl
 .exact MK
def cV(c:aj)(b e:Nat)(d:aj):aj:=λa=>if b<=a/\a<b+e then d (a-b)else c a
theorem nT{a:Nat}(j:a+r<=f)(aL:Qam)(i:aL.length=r)(h:∀c,c<r->aL[c]? =some (hB p (cV F a r zk) (a+c))):cC (ie p f F) a aL=ie p f (cV F a r zk):=by
 apply kc;intro b;by_cases g:a<=b/\b<a+r
 .have e:=pC (i:=ie p f F) (a:=a) (s:=b-a) (aL:=aL) uf Z;rw[show a+(b-a)=b from Z]at e;rw[e,h _ Z,show a+(b-a)=b from Z,pJ Z]
 .rw[nR uf Z];by_cases d:b<f
  .rw[pJ d,pJ d];unfold hB cV;rw[M g]
  .rw[hP uf,hP uf]
end
def hC(a:Nat):Bool:=(decide (1<=a)&&decide (a<=4))||(decide (18<=a)&&decide (a<=23))
def ap(a:aj):Qad:=ie hC 408 a
theorem cP(a:aj):bT prog 233 (ap a).size:=by rw[ap,gI];exact⟨_,underlying233,rfl,ar⟩
theorem i':dJ 233 (.agg (ap λ_=>0)):=dM
theorem gf(a:aj):(ap a).all (·.oneCell')=true:=ZF
theorem fa{a:aj}(c:s<408)(b:hC s=false):(ap a)[s]? =some (.int .i64 (a s)):=w2 c b
theorem hX{a:aj}(c:s<408)(b:hC s=true):(ap a)[s]? =some (.bool (a s !=0)):=MJ c b
theorem jx{d:Nat}{T:Qat}{b:aj}(f:ag c d T (ap b))(a:Nat)(e:a<408:=by decide)(g:hC a=false:=by rfl):c.cell? ⟨d,a,none⟩=some (.int .i64 (b a)):=(f.au a).trans (fa e g)
theorem kF{d:Nat}{T:Qat}{b:aj}(f:ag c d T (ap b))(a:Nat)(e:a<408:=by decide)(g:hC a=true:=by rfl):c.cell? ⟨d,a,none⟩=some (.bool (b a !=0)):=(f.au a).trans (hX e g)
structure aY where
 t:Int
 s:Int
 i:Bool
 n:Bool
def bl(a:aY):Qad:=#[X a.t,X a.s,.bool a.i,.bool a.n]
structure aY.Ok(a:aY):Prop where
 t:a.t=1\/a.t=2\/a.t=3
 s:(a.s=1/\a.i=true)\/(a.s=2/\a.i=true)\/(a.s=3/\a.n=false)
def aY.both(a:aY):Bool:=a.i&&a.s==3
def aY.field(a:aY):Bool:=a.s !=3
theorem cE(a:aY):bT prog 236 (bl a).size:=⟨_,underlying236,rfl,ar⟩
theorem Fp(a:aY):(bl a).all (·.oneCell')=true:=by simp[bl,Value.oneCell']
theorem eU(a:aj):bT prog 274 (an .i64 8 a).size:=by rw[gO];exact⟨_,underlying274,rfl,ar⟩
theorem nU:dJ 274 (.agg (an .i64 8 λ_=>0)):=dM
structure ig(b:aj):Prop where
 q:1<=b 0/\b 0<=31
 Bh:∀a,1<=a->a<=3->-4095<=b a/\b a<=4095
 v:∀a,4<=a->a<=7->-63<=b a/\b a<=63
def bO(b:aj)(c:Nat):aj:=λa=>b (24+64*c+a)
def ea(a:aj):Bool:=a 0==1||(a 18 !=0||a 19 !=0||a 20 !=0||a 21 !=0||a 22 !=0||a 23 !=0)
structure Fq(d:aY)(a:aj)(c:Nat):Prop where
 off:a (1+c)=0->(∀b,b<4->a (5+4*c+b)=0)/\∀b,b<2->a (13+2*c+b)=0
 one:a (1+c)≠0->a 3=0->a (5+4*c+2)=0/\a (5+4*c+3)=0/\a (13+2*c+1)=0
 A8:a (1+c)≠0->a 3=0->d.s=3->a (13+2*c)=0
 v:∀b,b<4->-63<=a (5+4*c+b)/\a (5+4*c+b)<=63
 Fs:∀b,b<2->a (13+2*c+b)=0\/a (13+2*c+b)=1
structure dV(c:aY)(a:aj):Prop where
 nV:c.Ok
 k:a 0=0\/a 0=1\/a 0=2
 qV:∀b,hC b=true->a b=0\/a b=1
 q:a 17=0
 ug:c.t=1->a 0=1
 pK:a 0=0->∀b,b<408->a b=0
 oQ:a 0=1->(∀b,1<=b->b<=3->a b=0)/\(∀b,5<=b->b<=16->a b=0)/\∀b,18<=b->b<=23->a b=1
 ja:a 0=2->a 1≠0\/a 2≠0
 lb:a 0=2->c.t=2->a 1≠0/\a 2=0
 pL:a 3≠0->c.both=true
 fd:a 4≠0->c.both=true/\ea a=true
 d:a 0=2->∀d,d<2->Fq c a d
 aR:∀b,24<=b->b<408->-4095<=a b/\a b<=4095
 nW:a 0=2->∀e,e<6->(a (18+e)=0↔∀b,b<64->bO a e b=0)
theorem c0.lt{d:Nat}{h:Qah}(e:c0 c d l h):∀b∈l,b<c.heap.size:=by
 obtain⟨j,i,g,f,rfl⟩:=e;intro b a;simp only[bu]at a;rcases a with rfl|a
 .exact g.lt
 .exact yM f b a
theorem c0.S{a:Nat}{d:af}{g:Qah}(j:c0 c a l g)(e:V d c n)(ak:∀b∈l,b∉d):c0 n a l g:=by obtain⟨i,h,k,m,rfl⟩:=j;exact⟨i,h,k.S e (ak a U),qq m e (λb f=>ak b jT),rfl⟩
theorem c0.ad{a:Nat}{b:Qah}(d:c0 c a l b)(e:V [] c n):c0 n a l b:=d.S e U
