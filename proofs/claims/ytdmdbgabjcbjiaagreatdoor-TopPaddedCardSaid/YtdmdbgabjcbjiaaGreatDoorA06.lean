import Derived.Test.YtdmdbgabjcbjiaaGreatDoorA03
set_option maxHeartbeats 0
set_option maxRecDepth 100000
set_option linter.all false
namespace Go.Proofs.YtdmdbgabjcbjiaaGreatDoor
open Go.RowKit fD cr hs a7 _root_.Go.Proofs.Tryz
variable{o:Qak}{g l r J G za p d b m:Nat}{B:Qau}{K:Qad}{i:Qah}{k t D C Q W:af}{j:aj}{A:N}{x:Qae}{v:Int}{u:Prop}{z:Qal}{q:Qaa}(f:N)(a:N)
theorem cr.aaz{i:Qab}{m:Qai}{j:Qaj}{d:Qax}{a:Act}{g:N}{h:Nat}{f l cr:Qau}{n:Array TypeId}{c b e k:Int}(p:(if e>(if b>c then b else c)then e else(if b>c then b else c))=k)(s:cB d o a) (w:d.op=.call {callee:=.builtin .max,args:=#[f,l,cr],argTypes:=n}) (t:a.eval f=X c) (r:a.eval l=X b) (u:a.eval cr=X e) (q:ba (bA []) prog o i h m j (a.put d.dst (X k)) g):ba (bA []) prog o i h ((d,0)::m) j a g:=by refine rL _ s (λx _=>?_) q;unfold execOp;simp only[w,resolve,invoke,builtin,eS,iW,gl,gm,cj,ee,t,r,u,run_max_int3,p]
def nm(a:aq)(b c:Nat):aq:=⟨16,16,dy a.y (16*c*a.w+16*b) a.w 16 16,dy a.u (8*c*(a.w/2)+8*b) (a.w/2) 8 8,dy a.v (8*c*(a.w/2)+8*b) (a.w/2) 8 8⟩
theorem aaA{a:aq}(f:a.dd)(E:J<a.w/16)(F:G<a.h/16):(nm a J G).dN:=by
 refine⟨⟨(by decide:2<=16),(by decide:16<=64),(by decide:16%2=0),(by decide:2<=16),(by decide:16<=64),(by decide:16%2=0),?_,?_,?_,pF f.gy _,pF f.fP _,pF f.hV _⟩,rfl,rfl⟩
 .exact pE _ _ _ _ _ (λd w=>A2)
 .refine Eq.trans ?_ (show 8*8=16/2*(16/2)from rfl);exact pE _ _ _ _ _ (λd w=>A3)
 .refine Eq.trans ?_ (show 8*8=16/2*(16/2)from rfl);exact pE _ _ _ _ _ (λd w=>A4)
theorem aaB(c:aq)(k:aK)(h j:Nat)(f:c.dd)(E:h<c.w/16)(F:j<c.h/16)(zn:aT a c k):Calls prog 234 #[al c k,X h,X j] a (jR (nm c h j) a):=by
 have zaJ:=f.gG;have D:=f.fH;have zs:=f.fr;have zm:=Y (λa=>E0 c k f a h j E F);have zu:=Y (λa=>E1 a c.w h j D Z Z);have zC:=Y zn;refine E8 λza W=>?_;refine Fb λze zd=>?_;have L:ck (c.y.length<=4096/\1<=16/\16<=64/\16<=64/\c.w<=128/\16*j*c.w+16*h<=8192/\∀d,d<16->16*j*c.w+16*h+d*c.w+16<=c.y.length):=⟨tU,R,R,R,Z,Z,λd w=>A2⟩;have I:ck (c.u.length<=4096/\1<=8/\8<=64/\8<=64/\c.w/2<=128/\8*j*(c.w/2)+8*h<=8192/\∀d,d<8->8*j*(c.w/2)+8*h+d*(c.w/2)+8<=c.u.length):=⟨tV,R,R,R,Z,Z,λd w=>A3⟩;have l:ck (c.v.length<=4096/\1<=8/\8<=64/\8<=64/\c.w/2<=128/\8*j*(c.w/2)+8*h<=8192/\∀d,d<8->8*j*(c.w/2)+8*h+d*(c.w/2)+8<=c.v.length):=⟨tW,R,R,R,Z,Z,λd w=>A4⟩;have zh:ck (nm c h j=⟨16,16,dy c.y (16*j*c.w+16*h) c.w 16 16,dy c.u (8*j*(c.w/2)+8*h) (c.w/2) 8 8,dy c.v (8*j*(c.w/2)+8*h) (c.w/2) 8 8⟩):=rfl;refine Ms λx zb q H m K=>?_;rw[<-zb]at zu L zh;rw[<-K]at zu I l zh H;rw[<-H]at zu I l zh;have zab:=Y (show∀zw zB zz,Value.agg #[X 16,X 16,.slice (ab zw) (dy c.y x c.w 16 16).length (dy c.y x c.w 16 16).length,.slice (ab zB) (dy c.u q m 8 8).length (dy c.u q m 8 8).length,.slice (ab zz) (dy c.v q m 8 8).length (dy c.v q m 8 8).length]=.agg (al (nm c h j) (bb (nm c h j) zw zB zz)) by intro zw zB zz;rw[zh.out];rfl);have zaB:m<=32:=Z;clear f E F za W ze zd zb H K;refine aaC λzX zS zah zae z6 zag zQ zaH zat zam zas=>?_;go_in;go_wp2_with(first|(clear zX;refine cx _ (al c k) rfl rfl rfl rfl ?_;intro zj zav g zL zaO;have zaR:=g.lt)|(clear zS;refine cw _ _ rfl rfl bY rfl ?_;intro zK zai i zq zaD;replace g:=g.S zq U;have zaq:=i.lt)|(clear zah;refine hA aB g rfl rfl rfl ?_))
 refine Fc ?_;clear g i;intro zR zA g i;have z8:zR.cell? ⟨zj,0,none⟩=some (.int .i64 (c.w:Int)):=g.au 0;go_wp2_with fail
 refine(zu.out _).mono ?_;rintro e t ⟨rfl,o⟩;replace g:=g.S o U;replace i:=i.S o U;have zc:zj<t.heap.size:=g.lt;have Q:zK<t.heap.size:=i.lt;have zay:=zq.size;have zal:=zA.size;have zar:=o.size;have z7:=Y (((zL.ad zq).ad zA).ad o);clear z8;go_wp2_with(first|(clear zae;refine cw _ _ rfl rfl mr rfl ?_;intro B A z r P;replace g:=g.S r U;replace i:=i.S r U;have zaG:=z.lt)|(clear z6;refine cw _ _ rfl rfl mr rfl ?_;intro G s u p zaP;replace g:=g.S p U;replace i:=i.S p U;replace z:=z.S p U;have zaF:=u.lt)|(clear zag;refine cv (Q:=hb x c.w 16 16) gd z rfl (k9 _ _ _ _) rfl rfl rfl rfl ?_;intro J zE zk zaN;replace g:=g.S zk aw;replace i:=i.S zk aw;replace u:=u.S zk aw)|(clear zQ;refine cv (Q:=hb q m 8 8) gd u rfl (k9 _ _ _ _) rfl rfl rfl rfl ?_;intro O zH zo zaQ;replace g:=g.S zo aw;replace i:=i.S zo aw;replace zE:=zE.S zo aw))
 have zY:ck (V [] t O):=(((r.ad p).own zk Z).own zo (by have:=r.size;omega));have zi:V [] a O:=z7.out.ad zY.out;have zaK:O.cell? ⟨zj,2,none⟩=some (.slice k.a c.y.length k.cJ):=g.au 2;have zan:O.cell? ⟨zj,3,none⟩=some (.slice k.b c.u.length k.cT):=g.au 3;have zaz:O.cell? ⟨zj,4,none⟩=some (.slice k.c c.v.length k.cm):=g.au 4;have zac:=Y ((zn.y.ad zi).drew);have zx:=Y ((zn.u.ad zi).drew);have zl:=Y ((zn.v.ad zi).drew);have zG:=Y zi;have zaj:zK<O.heap.size:=i.lt;clear zn zL zq zA o r p zk zo zi;refine rg [] [0,1,2,4,5,6,8,9,10,103,107,111,12,213,14] ?_;refine jL ?_;refine iZ gd rfl rfl rfl zE.drew ?_;refine jL ?_;refine iZ gd rfl rfl rfl zH.drew ?_;refine jL ?_;refine iZ gd rfl rfl rfl zH.drew ?_;simp only[az];refine bN (sb _ k.a k.cJ c.y x c.w 16 16 zac.out zC.out.lG L.out.1 L.out.2.1 L.out.2.2.1 L.out.2.2.2.1 L.out.2.2.2.2.1 L.out.2.2.2.2.2.1 L.out.2.2.2.2.2.2) ?_;refine wS λzaf zt zI zp zZ=>?_;simp only[az];replace zx:=Y (zx.out.ad zp);replace zl:=Y (zl.out.ad zp);refine bN (sb _ k.b k.cT c.u q m 8 8 zx.out zC.out.kj I.out.1 I.out.2.1 I.out.2.2.1 I.out.2.2.2.1 I.out.2.2.2.2.1 I.out.2.2.2.2.2.1 I.out.2.2.2.2.2.2) ?_;refine tX λzak zD zJ zf zap=>?_;simp only[az];replace zl:=Y (zl.out.ad zf);refine bN (sb _ k.c k.cm c.v q m 8 8 zl.out zC.out.fO l.out.1 l.out.2.1 l.out.2.2.1 l.out.2.2.2.1 l.out.2.2.2.2.1 l.out.2.2.2.2.2.1 l.out.2.2.2.2.2.2) ?_;refine tY λzaL zy zaa zr zax=>?_;replace i:=((i.drew.S zp U).S zf U).S zr U;refine ax ?_;refine el λzM zF=>?_;refine cv (Q:=al (nm c h j) (bb (nm c h j) zt zD zy)) aB i rfl (bo _ _) rfl rfl rfl (zab.out zt zD zy) ?_;intro zad zO zv zao;refine zF _ _ ?_;clear zF zM;refine ax ?_;go_wp2_with fail
 have zW:=(zI.S zf U).S zr U;have zP:=zJ.S zr U;have zau:=zI.lt;have zaM:=zJ.lt;have zaw:O.heap.size<=zt:=zZ;have zaE:=(zp.size:O.heap.size<=zaf.heap.size);have zaI:=zf.size;have aU:=zG.out.size;have zV:V [] a zad:=((((zG.out.drew.ad zp).ad zf).ad zr)).own zv Z;refine bB (eW rfl aB zO rfl) ⟨zt,zD,zy,rfl,?_⟩;rw[zh.out];exact⟨zW.S zv aw,zP.S zv aw,zaa.S zv aw,zV,Z,Z,Z,Z,Z,Z⟩
theorem FU(y r:Qae)(C P:Nat)(i g:af)(A:aF a y 1 i.length (aC i))(w:aF a r 1 g.length (aC g))(t:i.length<=g.length)(W:g.length<=4096)(q:∀b∈i,b<256)(z:∀b∈g,b<256):Calls prog 278 #[.slice y i.length C,.slice r g.length P] a λK D=>∃e:Nat,K=.returned (X e)/\e<=255/\a=D:=by
 have u:=Y A;have s:=Y w;have J:=Y q;have Q:=Y z;obtain⟨h,n⟩:∃h,h=i.length:=⟨_,rfl⟩;obtain⟨o,l⟩:∃o,o=g.length:=⟨_,rfl⟩;rw[<-n]at t u⊢;rw[<-l]at t W s⊢;have I:=Y n;have L:=Y l;clear A w q z n l;go_in;go_wp2_with fail
 go_loopw [5,11] (λG k wr=>∃f e:Nat,f<=h/\k=X f/\e<=255/\G=X e/\a=wr) (λ_ k _=>h-(intOf k).toNat)
 .exact⟨0,0,Z,rfl,Z,rfl,rfl⟩
 .obtain⟨f,e,zi,rfl,ak,rfl,rfl⟩:=hrel;by_cases B:f<h
  .obtain⟨za,zc,rfl,p⟩:=u.out.plain Z Z;obtain⟨H,E,rfl,x⟩:=s.out.plain Z Z;obtain⟨b,c⟩:∃b,i[f]? =some b:=⟨_,cu (by rw[<-I.out];exact B)⟩;obtain⟨d,m⟩:∃d,g[f]? =some d:=⟨_,cu (by rw[<-L.out];omega)⟩;have zj:a.cell? ⟨za,zc+f,none⟩=some (.int .u8 (b:Int)):=p f _ xa;have ze:a.cell? ⟨H,E+f,none⟩=some (.int .u8 (d:Int)):=x f _ (by simp[aC,m]);have zh:=J.out b (bS c);have zd:=Q.out d (bS m);have O:(f:Int)<(h:Int):=Z;have zf:(f:Int)<(o:Int):=Z;clear p x c m;go_wp2_with fail
   obtain⟨j,F,zb⟩:∃j:Nat,(if(if(e:Int)<(b:Int)-(d:Int)then(b:Int)-(d:Int)else(e:Int))< -((b:Int)-(d:Int))then -((b:Int)-(d:Int))else if(e:Int)<(b:Int)-(d:Int)then(b:Int)-(d:Int)else(e:Int))=(j:Int)/\j<=255:=⟨(if(if(e:Int)<(b:Int)-(d:Int)then(b:Int)-(d:Int)else(e:Int))< -((b:Int)-(d:Int))then -((b:Int)-(d:Int))else if(e:Int)<(b:Int)-(d:Int)then(b:Int)-(d:Int)else(e:Int)).toNat,by(repeat' split)<;>omega,by(repeat' split)<;>omega⟩;rw[F];exact⟨⟨f+1,j,Z,a8,zb,rfl,trivial⟩,bF⟩
  .have O:¬((f:Int)<(h:Int)):=Z;go_wp2_with fail
   go_ret;exact⟨e,rfl,ak,rfl⟩
theorem aaD(c h:aq)(m l:aK)(f:c.Ok)(q:h.Ok)(x:c.w=h.w)(y:c.h=h.h)(E:aT a c m)(H:aT a h l):Calls prog 254 #[al c m,al h l] a λe P=>∃W:Int,e=.returned (X W)/\V [] a P:=by
 refine Fk λzm zH=>?_;have zc:h.w*h.h<=64*64:=eL q.fH q.fr;have Q:h.w/2*(h.h/2)<=32*32:=eL (by have:=q.fH;omega) (by have:=q.fr;omega);have zb:=Y (λa s n=>FU a m.a l.a m.cJ l.cJ c.y h.y s n (by rw[f.d',q.d',x,y];exact a' _) (by rw[q.d'];omega) f.gy q.gy);have O:=Y (λa s n=>FU a m.b l.b m.cT l.cT c.u h.u s n (by rw[f.eM,q.eM,x,y];exact a' _) (by rw[q.eM];omega) f.fP q.fP);have za:=Y (λa s n=>FU a m.c l.c m.cm l.cm c.v h.v s n (by rw[f.aR,q.aR,x,y];exact a' _) (by rw[q.aR];omega) f.hV q.hV);have B:=Y E;have C:=Y H;obtain⟨j,L⟩:∃j,j=h.w:=⟨_,rfl⟩;obtain⟨u,K⟩:∃j,j=h.h:=⟨_,rfl⟩;have A:=Y (show(c.w:Int)=(j:Int)/\(h.w:Int)=(j:Int)/\(c.h:Int)=(u:Int)/\(h.h:Int)=(u:Int)from Z);clear f q zc Q x y E H L K;go_in;go_wp2_with(first|(refine cx _ (al c m) rfl rfl rfl rfl ?_;intro p zi g J zt;have zx:=g.lt)|(refine cx _ (al h l) rfl rfl rfl rfl ?_;intro r zu i D zr;replace g:=g.S D U;have zn:=i.lt)|(refine hA aB g rfl rfl rfl ?_))
 refine Fc ?_;clear g i;intro zs G g i;go_wp2_with(refine mq aB i rfl rfl rfl ?_)
 refine(zH.out _).mono ?_;rintro e t ⟨rfl,o⟩;replace g:=g.S o U;replace i:=i.S o U;have zf:t.cell? ⟨p,0,none⟩=some (.int .i64 (j:Int)):=by rw[<-A.out.1];exact g.au 0
 have zv:t.cell? ⟨p,1,none⟩=some (.int .i64 (u:Int)):=by rw[<-A.out.2.2.1];exact g.au 1
 have zz:t.cell? ⟨r,0,none⟩=some (.int .i64 (j:Int)):=by rw[<-A.out.2.1];exact i.au 0
 have ze:t.cell? ⟨r,1,none⟩=some (.int .i64 (u:Int)):=by rw[<-A.out.2.2.2];exact i.au 1
 have zp:t.cell? ⟨p,2,none⟩=some (.slice m.a c.y.length m.cJ):=g.au 2;have zy:t.cell? ⟨p,3,none⟩=some (.slice m.b c.u.length m.cT):=g.au 3;have zq:t.cell? ⟨p,4,none⟩=some (.slice m.c c.v.length m.cm):=g.au 4;have zo:t.cell? ⟨r,2,none⟩=some (.slice l.a h.y.length l.cJ):=i.au 2;have zk:t.cell? ⟨r,3,none⟩=some (.slice l.b h.u.length l.cT):=i.au 3;have zh:t.cell? ⟨r,4,none⟩=some (.slice l.c h.v.length l.cm):=i.au 4;have k:=Y ((((J.ad D).ad G).ad o).drew);clear g i J D G o;go_wp2_with fail
 refine rg [] [0,1,2,3,5,6,7,8,10,11,12,13,104,109,114,15,16] ?_;refine ax ?_;refine bN (zb.out _ (B.out.y.ad k.out) (C.out.y.ad k.out)) ?_;rintro e zj ⟨z,rfl,_,rfl⟩;refine⟨_,rfl,V.refl _ _,?_⟩;simp only[az];refine bN (O.out _ (B.out.u.ad k.out) (C.out.u.ad k.out)) ?_;rintro e zd ⟨w,rfl,_,rfl⟩;refine⟨_,rfl,V.refl _ _,?_⟩;simp only[az];refine bN (za.out _ (B.out.v.ad k.out) (C.out.v.ad k.out)) ?_;rintro e zw ⟨I,rfl,_,rfl⟩;refine⟨_,rfl,V.refl _ _,?_⟩;simp only[az];refine aG ((if(I:Int)>(if(w:Int)>(z:Int)then(w:Int)else(z:Int))then(I:Int)else(if(w:Int)>(z:Int)then(w:Int)else(z:Int)))) λzl F=>?_;refine aaz F rfl rfl rfl rfl rfl ?_;clear F;refine ax ?_;go_wp2_with fail
 go_ret;exact⟨_,rfl,k.out⟩
theorem aaE(c b:aq)(f e:aK)(p:c.Ok)(o:b.Ok)(m:c.w=b.w)(n:c.h=b.h)(i:aT a c f)(l:aT a b e):Calls prog 237 #[al c f,al b e] a λk s=>∃w:Bool,k=.returned (.bool w)/\V [] a s:=by
 have u:=Y (λa=>aaD a c b f e p o m n);have q:=Y i;have r:=Y l;clear p o m n i l;go_in;go_wp2_with(first|(refine cx _ (al c f) rfl rfl rfl rfl ?_;intro A x g h D;have G:=g.lt)|(refine cx _ (al b e) rfl rfl rfl rfl ?_;intro E F j d B;replace g:=g.S d U;have z:=j.lt)|(refine hA aB g rfl rfl rfl ?_)|(refine hA aB j rfl rfl rfl ?_))
 refine(u.out _ (q.out.ad (h.ad d)) (r.out.ad (h.ad d))).mono ?_;rintro k C ⟨y,rfl,t⟩;go_wp2_with fail
 go_ret;exact⟨_,rfl,(h.ad d).ad t⟩
section
variable {D:af}{a f A:N}{E:bX}{h:Nat}{T:Qat}{H:Qad}
theorem ao.hE(d:ao D a f E)(j:ag A h T H)(e:V [] f A)(k:h∉E.map (·.1))(i:a.heap.size<=h):ao D a A ((h,T,H)::E):=⟨d.aa.ad e,λc b=>by
 rcases bu.1 b with rfl|b
 .exact j
 .exact(d.b c b).S e U,MC,λc b=>by
 rcases bu.1 b with rfl|b
 .exact .inr i
 .exact d.n c b⟩
def sq(c:Nat)(a:bX):Prop:=∀b∈a.map (·.1),b<c
theorem ao.fv(b:ao D a f E):sq f.heap.size E:=λe c=>by obtain⟨g,d,rfl⟩:=ca.1 c;exact b.lt d
theorem sq.off(a:sq l E)(c:l<=h):h∉E.map (·.1):=λb=>absurd (a h b) Z
theorem sq.cons{d:Nat}{a:Nat×TypeId×Array Value}(b:h∉E.map (·.1))(c:h≠a.1):h∉(a::E).map (·.1):=by rw[cj,bu,kd];exact⟨c,b⟩
end
namespace cr
section
variable {s:Qav}{o:Qak}{q:Qab}{l:Nat}{w:Qai}{y:Qaj}{n:Qax}{g:Act}{f:N}
theorem lO{d:Qat}{e:Tmp}(v:Qas)(h:Qad)(r:pj n=some (d,e))(c:(s.info? d).map (·.zero)=some (some v))(j:v.cells=h) (k:∀a b,V [] f b->ag b a d h->lq y a->ba (bA []) s o q (l-1) w ((a,a+1)::y) (g.put (some e) (ab a)) b):ba (bA []) s o q l ((n,4)::w) y g f:=by
 refine W4 r (zn:=v) ?_ λb a m p t=>k a b m (j▸p) t;cases i:s.info? d with
 |none=>rw[i]at c;cases c
 |some u=>rw[i]at c;simpa using c
theorem km{a:Nat}(b:lq y a)(c:(0,za)∈y):za<=a:=(b _ c).resolve_left (fT _)
theorem FV{h:Qab}{e:FuncId}{d:rD}(l:cB n o g)(p:∀f,(execOp g.eval n).run s f=.ok (.enter e K) f)(i:Calls s e K f d) (k:∀b a,d b a->∃c,b=.returned c/\h (g.put n.dst c) a):wpList s o (Nm h) [n] g f:=by unfold wpList;rw[ae l];refine .inl ?_;unfold Oper.wp;rw[p f];refine i.mono λb a j=>?_;obtain⟨c,rfl,m⟩:=k b a j;exact m
theorem NL{h:FuncId}{e:World->Ending->World->Prop}(m:cB n o g)(p:∀f,(execOp g.eval n).run s f=.ok (.enter h K) f) (j:∀a,V [] f a->Calls s h K a (e a)/\∀c b,e a c b->∃d,c=.returned d/\V [] a b/\ba (bA []) s o q (l+1) w ((a.heap.size,b.heap.size)::y) (g.put n.dst d) b):ba (bA []) s o q (l+1) ((n,1)::w) y g f:=JZ λa k B u=>by obtain⟨i,r⟩:=j a k;exact FV m p i λc b t=>by obtain⟨d,z,A,x⟩:=r c b t;exact⟨d,z,u _ _ A x⟩
theorem n3{i:FuncId}{h:World->Ending->World->Prop}(m:cB n o g)(p:∀f,(execOp g.eval n).run s f=.ok (.enter i K) f)(j:∀a,V [] f a->Calls s i K a (h a)) (k:∀a,V [] f a->∀d b,h a d b->∃e,d=.returned e/\V [] a b/\ba (bA []) s o q (l+1) w ((a.heap.size,b.heap.size)::y) (g.put n.dst e) b):ba (bA []) s o q (l+1) ((n,1)::w) y g f:=NL m p λa c=>⟨j a c,k a c⟩
end
end cr
def ih(d c:af):af:=List.zipWith (λa b=>(a+b+1)/2) d c
theorem FW{b:af}(f:∀a∈b,a<256)(h:∀a∈k,a<256):∀a∈ih b k,a<256:=λa g=>by obtain⟨c,e,d⟩:=List.getElem_of_mem g;simp only[ih,List.getElem_zipWith]at d;simp only[ih,List.length_zipWith]at e;have i:=f _ (la (l:=b) (n:=c) Z);have j:=h _ (la (l:=k) (n:=c) Z);omega
theorem aaF{a:af}{b c:Nat}(f:a[d]? =some b)(g:k[d]? =some c)(j:d<l):(aC ((ih a k).take d++List.replicate (l-d) 0)).toArray.setIfInBounds d (.int .u8 (((b+c+1)/2:Nat):Int))=(aC ((ih a k).take (d+1)++List.replicate (l-(d+1)) 0)).toArray:=by
 have e:((ih a k).take d).length=d:=by have i:=(e8.1 f).1;have m:=(e8.1 g).1;simp[ih];omega
 have h:(ih a k)[d]? =some ((b+c+1)/2):=by simp[ih,FJ,f,g]
 rw[cb,show l-d=(l-(d+1))+1 from Z,r4,AA,h];congr 1;simp only[aC,hf,cj];rw[Fg _ _ (by rw[ju,e];exact a' _),ju,e,lF,cK];simp
theorem FX(I w:Qae)(zl zi d:Nat)(g f:af)(z:g.length=d)(F:f.length=d)(zw:d<=4096)(x:∀e∈g,e<256)(B:∀e∈f,e<256)(J:aF a I 1 d (aC g))(D:aF a w 1 d (aC f)):Calls prog 233 #[.slice I d zl,.slice w d zi] a (wP (ih g f) a):=by
 obtain⟨zj,L,Q,zc,G⟩:=k8 kB;have zf:=Y J;have za:=Y D;have p:=Y z;have s:=Y F;have zb:=Y x;have zk:=Y B;clear J D z F x B;go_in;go_wp2_with(at_make;refine qt _ rfl _ _ 57 rfl 5 zj (.int .u8 0) underlying57 L Q zc rfl _ _ _ _ d rfl rfl rfl rfl ng ib ?_;intro H h u aU)
 have y:=Y u;rw[wO]at h;have O:=Y h;have zq:a.heap.size<H.heap.size:=h.lt;clear h u;go_loopw [13] (λn wr=>∃b:Nat,b<=d/\n=X b/\Hid (ag wr a.heap.size 5 (aC ((ih g f).take b++List.replicate (d-b) 0)).toArray)/\Hid (V [a.heap.size] H wr)) (λn _=>d-(intOf n).toNat)
 .exact⟨0,Z,rfl,Y (by simpa using O.out),Y (V.refl _ _)⟩
 .obtain⟨b,zv,rfl,l,o⟩:=hrel;by_cases m:b<d
  .have qH:=y.out.own o.out (a' _);obtain⟨zm,zo,rfl,t⟩:=(zf.out.ad qH).plain Z Z;obtain⟨h,W,rfl,E⟩:=(za.out.ad qH).plain Z Z;obtain⟨e,c⟩:∃e,g[b]? =some e:=⟨_,cu (by rw[p.out];exact m)⟩;obtain⟨i,k⟩:∃i,f[b]? =some i:=⟨_,cu (by rw[s.out];exact m)⟩;have zy:wr.cell? ⟨zm,zo+b,none⟩=some (.int .u8 (e:Int)):=t b _ xa;have zr:wr.cell? ⟨h,W+b,none⟩=some (.int .u8 (i:Int)):=E b _ (by simp[aC,k]);have zx:=zb.out e (bS c);have zt:=zk.out i (bS k);have zh:(b:Int)<(d:Int):=Z;obtain⟨j,r⟩:∃j,j=(e+i+1)/2:=⟨_,rfl⟩;have zp:((e:Int)+(i:Int)+1)/2=(j:Int):=Z;have zu:j<256:=Z;have A:∃v,wr.cell? ⟨a.heap.size,b,none⟩=some v:=by rw[l.out.au];exact⟨_,wL (by simp[aC,ih,p.out,s.out];omega)⟩
   obtain⟨g',A⟩:=A;have zs:=l.out.eA b;obtain⟨q,C⟩:=l.out.hc b (.int .u8 (j:Int));rw[r,aaF c k m,<-r]at q;have P:=Y q;have zd:=Y (o.out.same C);clear t E c k q C qH r;go_wp2_with fail
   exact⟨⟨b+1,Z,a8,P,zd⟩,bF⟩
  .have zn:b=d:=Z;subst zn;have zh:¬((b:Int)<(b:Int)):=Z;go_wp2_with fail
   go_ret;have ze:(ih g f).length=b:=by simp[ih,p.out,s.out]
   have K:=l.out;rw[lF,wQ,eG,ml Z]at K;exact⟨a.heap.size,by rw[ze];rfl,K,y.out.own o.out (a' _),a' _⟩
def oS(a b:aq):aq:=⟨a.w,a.h,ih a.y b.y,ih a.u b.u,ih a.v b.v⟩
theorem us{a:af}(b:a.length=k.length):(ih a k).length=a.length:=by simp[ih,b]
theorem aaG{c d:aq}(a:c.Ok)(b:d.Ok)(e:d.w=c.w)(f:d.h=c.h):(oS c d).Ok:=⟨a.gG,a.fH,a.kC,a.iY,a.fr,a.he,by show(ih _ _).length= _;rw[us (by rw[a.d',b.d',e,f])];exact a.d',by show(ih _ _).length= _;rw[us (by rw[a.eM,b.eM,e,f])];exact a.eM,by show(ih _ _).length= _;rw[us (by rw[a.aR,b.aR,e,f])];exact a.aR,FW a.gy b.gy,FW a.fP b.fP,FW a.hV b.hV⟩
theorem aaH(c h:aq)(m l:aK)(f:c.Ok)(q:h.Ok)(K:h.w=c.w)(I:h.h=c.h)(zl:aT a c m)(zo:aT a h l):Calls prog 198 #[al c m,al h l] a (jR (oS c h) a):=by
 refine Fk λzA za3=>?_;have W:=Y zl;have O:=Y zo;have zag:(h.w:Int)=(c.w:Int):=Z;have z7:(h.h:Int)=(c.h:Int):=Z;have zP:c.w*c.h<=64*64:=eL f.fH f.fr;have zh:c.w/2*(c.h/2)<=32*32:=eL BD BE;have i:ck (h.y.length=c.y.length/\h.u.length=c.u.length/\h.v.length=c.v.length):=⟨by rw[f.d',q.d',K,I],by rw[f.eM,q.eM,K,I],by rw[f.aR,q.aR,K,I]⟩;have zO:=Y (λa D F=>FX a m.a l.a m.cJ l.cJ c.y.length c.y h.y rfl i.out.1 tU f.gy q.gy D F);have zv:=Y (λa D F=>FX a m.b l.b m.cT l.cT c.u.length c.u h.u rfl i.out.2.1 tV f.fP q.fP D F);have zK:=Y (λa D F=>FX a m.c l.c m.cm l.cm c.v.length c.v h.v rfl i.out.2.2 tW f.hV q.hV D F);have zq:al h l=#[.int .i64 (h.w:Int),.int .i64 (h.h:Int),.slice l.a c.y.length l.cJ,.slice l.b c.u.length l.cT,.slice l.c c.v.length l.cm]:=by unfold al;rw[i.out.1,i.out.2.1,i.out.2.2]
 have zw:=Y zq;clear zP zh f q K I zl zo zq;go_in;go_wp2_with(first|(refine cx _ (al c m) rfl rfl rfl rfl ?_;intro zj zi g L zh;have zW:=g.lt;have zaa:a.heap.size<=zi.heap.size:=L.size)|(refine cx _ (al h l) rfl rfl rfl rfl ?_;intro zt zb j H zam;replace g:=g.S H U;have zad:=j.lt;have zV:zi.heap.size<=zb.heap.size:=H.size)|(refine cw _ _ rfl rfl bY rfl ?_;intro zZ zz k E zY;replace g:=g.S E U;replace j:=j.S E U;have zQ:=k.lt;have z6:zb.heap.size<=zz.heap.size:=E.size)|(refine hA aB g rfl rfl rfl ?_))
 refine Ff zA.out ?_;clear g j k;intro A r g j k zS;go_wp2_with(refine mq aB j rfl rfl rfl ?_)
 refine MB ?_;clear g j k;intro s p g j k zah zI zy zJ zM;go_wp2_with fail
 rw[zw.out]at j;have x:=Y ((((((L.ad H).ad E).ad r).ad p)).drew);clear zI zy zJ zM;have zL:s.cell? ⟨zj,0,none⟩=some (.int .i64 (c.w:Int)):=g.au 0;have zF:s.cell? ⟨zj,1,none⟩=some (.int .i64 (c.h:Int)):=g.au 1;have zs:s.cell? ⟨zj,2,none⟩=some (.slice m.a c.y.length m.cJ):=g.au 2;have zC:s.cell? ⟨zt,2,none⟩=some (.slice l.a c.y.length l.cJ):=j.au 2;have zE:s.cell? ⟨zj,3,none⟩=some (.slice m.b c.u.length m.cT):=g.au 3;have zu:s.cell? ⟨zt,3,none⟩=some (.slice l.b c.u.length l.cT):=j.au 3;have zG:s.cell? ⟨zj,4,none⟩=some (.slice m.c c.v.length m.cm):=g.au 4;have zD:s.cell? ⟨zt,4,none⟩=some (.slice l.c c.v.length l.cm):=j.au 4;refine rg [] [0,1,2,3,4,5,6,7,9,10,11,12,14,15,16,17,108,113,118,19,220,21] ?_;refine ax ?_;refine bN (zO.out _ (W.out.y.ad x.out) (by have:=O.out.y.ad x.out;rwa[i.out.1]at this)) ?_;refine wS λJ y C n P=>?_;simp only[az];replace g:=g.drew.S n U;replace j:=j.drew.S n U;replace k:=k.drew.S n U;have zaf:s.heap.size<=J.heap.size:=n.size;refine bN (zv.out _ (W.out.u.ad (x.out.ad n)) (by have:=O.out.u.ad (x.out.ad n);rwa[i.out.2.1]at this)) ?_;refine tX λzd zn zp o zae=>?_;simp only[az];replace g:=g.S o U;replace j:=j.S o U;replace k:=k.S o U;have z8:J.heap.size<=zd.heap.size:=o.size;refine bN (zK.out _ (W.out.v.ad ((x.out.ad n).ad o)) (by have:=O.out.v.ad ((x.out.ad n).ad o);rwa[i.out.2.2]at this)) ?_;refine tY λzf ze zk t zal=>?_;replace g:=g.S t U;replace j:=j.S t U;replace k:=k.S t U;have z1:zd.heap.size<=zf.heap.size:=t.size;refine ax ?_;refine el λzr za=>?_;refine cv (Q:=al (oS c h) (bb (oS c h) y zn ze)) aB k rfl (bo _ _) rfl rfl rfl (by unfold al bb oS;simp only[us i.out.1.symm,us i.out.2.1.symm,us i.out.2.2.symm];rfl) ?_;intro zB zx w zab;replace g:=g.S w aw;replace j:=j.S w aw;have zak:zf.heap.size<=zB.heap.size:=w.size;refine za _ _ ?_;clear za zr;refine ax ?_;clear zL zF zs zC zE zu zG zD;go_wp2_with fail
 have zac:s.heap.size<=y:=P;have zX:=C.lt;have zai:=zp.lt;have zR:=zk.lt;have z':=o.size;have zaj:=t.size;exact bB (eW rfl aB zx rfl) ⟨y,zn,ze,rfl,⟨((C.S o U).S t U).S w aw,(zp.S t U).S w aw,zk.S w aw,(((((((((L.ad H).ad E).ad r).ad p)).drew.ad n).ad o).ad t).own w Z),Z,Z,Z,Z,Z,Z⟩⟩
theorem BF(c:af):∀b∈aC c,b.oneCell'=true:=by intro b a;simp only[aC,ca]at a;obtain⟨d,_,rfl⟩:=a;rfl
theorem aaI(a:Qah):bits BinOp.or IntKind.u8 (ff a (a.length/8):Int) (128/2^(a.length%8))=(ff (a++[true]) (a.length/8):Int):=by
 have b:=L6 a true;have c:((true.toNat:Int)*2^(7-a.length%8)%256)=128/2^(a.length%8):=by
  have:a.length%8<8:=nc _ Z;generalize a.length%8=d at this;match d,this with
  |0,_=>rfl
  |1,_=>rfl
  |2,_=>rfl
  |3,_=>rfl
  |4,_=>rfl
  |5,_=>rfl
  |6,_=>rfl
  |7,_=>rfl
 rw[c]at b;exact b
theorem akX(a:Qah):splice (List.replicate (a.length/8+1) (Value.int .u8 0)) 0 ((aC (pack a)).take (a.length/8+1))=aC ((List.range (a.length/8+1)).map (ff a)):=by
 have d:(aC (pack a)).length=(a.length+7)/8:=by simp[aC,pack]
 rw[ml Z];simp only[splice,List.take_zero,cU,d];by_cases c:a.length%8=0
 .rw[<-EH a c];have b:0+(a.length+7)/8=a.length/8:=Z;rw[b];simp[aC]
 .rw[<-EI a c];have b:0+(a.length+7)/8=a.length/8+1:=Z;rw[b];simp
theorem NM(g:Nat)(u:af)(a:Qah)(t:c0 f g u a)(K:a.length<=1099511627776):Calls prog 92 #[ab g] f λe o=>e=.returned (.slice (some ⟨f.heap.size,0,none⟩) (a.length/8+1) (a.length/8+1))/\ag o f.heap.size 5 (aC (bh a)).toArray/\V [] f o:=by
 obtain⟨n,s,i,A,O⟩:=t;obtain⟨D,j,x,k,G⟩:=k8 kB;have C:(prog.info? 5).map (·.size)=some 1:=by rw[j];simp[k]
 have F:=i.au 1;simp only[b4,dt,dY]at F;have P:=i.lt;go_in;go_wp2_with(at_make;refine qt _ rfl _ _ 57 rfl 5 D (.int .u8 0) underlying57 j x k rfl _ _ _ _ (a.length/8+1) rfl rfl Z Z ng ib ?_)
 intro z r c y;have h:=i.S c U;have I:=h.au 0;have d:=h.au 1;simp only[b4,dt,dY]at I d;have q:aF z n 1 ((a.length+7)/8) (aC (pack a)):=(aF.nG A).ad c;have za:=Y y;go_wp2_with(with_reducible refine rF _ rfl _ _ 57 57 rfl 5 underlying57 C f.heap.size 0 _ _ n _ s rfl rfl _ 5 r _ q U (BF _) ?_)
 intro H b m;rw[akX]at b;have W:f.heap.size≠g:=Z;have p:=h.S m aw;have B:V [] f H:=c.first m U;have d:=p.au 1;simp only[b4,dt,dY]at d;have E:=b.au (a.length/8);have Q:=b.eA (a.length/8);have w:(aC ((List.range (a.length/8+1)).map (ff a))).toArray[a.length/8]? =some (.int .u8 (ff a (a.length/8):Int)):=mo;rw[w]at E;have J:(a.length:Int)/8<((a.length/8+1:Nat):Int):=Z;have L:(0:Int)<=(a.length:Int)/8:=Z;go_wp2_with fail
 go_region;all_goals go_wp2_with fail
 go_ret;refine⟨rfl,?_,((B.setCell (d:=⟨f.heap.size,a.length/8,none⟩) (.inr (a' _)) _)).drew⟩;have l:=(b.ma (a.length/8) (.int .u8 (bits BinOp.or IntKind.u8 (ff a (a.length/8):Int) (128/2^(a.length%8))))).drew;rw[aaI]at l⊢;have e:(aC (bh a))=(aC ((List.range (a.length/8+1)).map (ff a))).set (a.length/8) (.int .u8 (ff (a++[true]) (a.length/8):Int)):=by unfold bh;rw[LJ];simp[aC,List.map_set]
 rw[e];simpa using l
def b2(c:N)(f e:Nat)(a:af)(b d:Nat):Prop:=ag c f 294 #[.slice (ab e) a.length a.length,X b,X d]/\ag c e 5 (aC a).toArray/\d<=b/\b<8*a.length/\a.length<=1099511627776/\∀g∈a,g<256
theorem b2.S{d:N}{a:Nat}{e:Nat}(c:b2 d a b t l e)(f:V D d A)(g:a∉D)(h:b∉D):b2 A a b t l e:=⟨c.1.S f g,c.2.1.S f h,c.2.2⟩
theorem b2.ne{d:N}{a:Nat}{e:Nat}(c:b2 d a b t l e):a≠b:=c.1.DI c.2.1 R
theorem FY(a l:Nat)(e:af)(b c:Nat)(i:b2 f a l e b c):Calls prog 140 #[ab a] f λj k=>j=.returned (X ((b:Int)-(c:Int)))/\f.drew=k:=by
 obtain⟨d,_,n,o,m,_⟩:=i;have g:=d.au 1;have h:=d.au 2;simp only[b4,dt,dY]at g h;go_in;go_wp2;go_region;all_goals go_wp2
 go_ret;exact⟨rfl,rfl⟩
def qX(a:af):Nat:=8*a.length-1-Lib.trailingZeros8 (a.getLastD 0)
theorem aaJ(b:Nat)(d:Qas)(a:Qam)(c:a.length=b):splice (List.replicate b d) 0 (a.take b)=a:=by rw[ml Z];simp[splice,c]
theorem aaK(L:Qae)(a w:Nat)(b:af)(h:aF f L 1 a (aC b))(zw:a<=1099511627776)(E:∀c∈b,c<256)(i:b.getLastD 0≠0):Calls prog 135 #[.slice L a w] f λm l=>m=.returned (.tuple #[.pointer (some ⟨f.heap.size+1,0,none⟩),X 0])/\b2 l (f.heap.size+1) f.heap.size b (qX b) 0/\V [] f l:=by
 have t:b.length=a:=by have:=h.1;simpa[aC]using this
 have s:0<a:=by
  rcases mV a with s|s
  .have:b=[]:=mb Z;subst this;simp at i
  .exact s
 obtain⟨c,g,j⟩:∃c,b[a-1]? =some c/\b.getLastD 0=c:=by
  have y:b[a-1]? =some (b[a-1]'Z):=cu Z;have zk:b.getLastD 0=(b[a-1]?).getD 0:=by rw[r6,r7,t]
  exact⟨_,y,by rw[zk,y];rfl⟩
 have zp:c<256:=E c (bS g);have zl:c≠0:=by rw[<-j];exact i
 obtain⟨J,zj,rfl,q,Q⟩:=h.at_ (k:=a-1) Z;obtain rfl:zj=.int .u8 (c:Int):=by simp only[aC,fx,g]at q;simpa using q.symm
 obtain⟨zn,u,zd,B,G⟩:=k8 kB;have zm:(prog.info? 5).map (·.size)=some 1:=by rw[u];simp[B]
 have zv:((a:Int)==0)=false:=aw;have zu:((c:Int)==0)=false:=aw;have zq:(a:Int)-1<(a:Int):=Z;have zx:(0:Int)<=(a:Int)-1:=Z;have m:((a:Int)-1).toNat=a-1:=Z;have zf:=(LK ⟨c,zp⟩ zl).2.2;simp only at zf;have bC:=Y g;have zh:=Y j;have d:=Y t;clear q i g j t;go_in;go_wp2_with(at_make;refine qt _ rfl _ _ 57 rfl 5 zn (.int .u8 0) underlying57 u zd B rfl _ _ _ _ a rfl rfl Z Z ng ib ?_)
 intro e W A z;have x:=h.ad A;have P:=x.alloc (.cells #[.slice (some ⟨f.heap.size,0,none⟩) a a,X 0,X 0] 294);have C:=W.alloc (.cells #[.slice (some ⟨f.heap.size,0,none⟩) a a,X 0,X 0] 294);have F:=ag.aP e 294 #[.slice (some ⟨f.heap.size,0,none⟩) a a,X 0,X 0];have p:=A.alloc (.cells #[.slice (some ⟨f.heap.size,0,none⟩) a a,X 0,X 0] 294);have K:=Y z;clear z;go_wp2_with(with_reducible refine rF _ rfl _ _ 57 57 rfl 5 underlying57 zm f.heap.size 0 _ _ (some J) _ w rfl rfl _ 5 C _ P U (BF _) ?_)
 intro I H n;rw[aaJ a _ _ (by simp[aC];exact d.out)]at H;have za:f.heap.size≠e.heap.size:=by have:=K.out;omega
 have k:=F.S n aw;have zb:=h.ad (p.first n U);have zi:V [] f I:=p.first n U;have zr:I.cell? (J.add (a-1))=some (.int .u8 (c:Int)):=by obtain⟨zy,zs,r,D,zo⟩:=zb.at_ (k:=a-1) Z;injection r with r;subst r;rw[zo];simp only[aC,fx,bC.out]at D;simpa using D.symm
 have zt:=k.eA 1;have ze:=k.au 1;simp only[b4,dt,dY]at ze;clear C F p x P Q;go_wp2_with(go_at_call 170;refine(YF _ _ Z Z).mono ?_;rintro m l ⟨rfl,rfl⟩)
 go_ret2;have o:=K.out;have O:=k.ma 1 (X (8*(a:Int)-1-(Lib.trailingZeros8 c:Int)));simp only;refine⟨by rw[<-o];rfl,⟨?_,?_,jo _,?_,by have:=d.out;omega,E⟩,zi.setCell (.inr (by show f.heap.size<=e.heap.size;omega)) _⟩
 .rw[o]at O;have zc:((qX b:Nat):Int)=8*(a:Int)-1-(Lib.trailingZeros8 c:Int):=by unfold qX;rw[zh.out,d.out];omega
  rw[d.out,zc,o];simpa using O
 .exact H.oA (b:=⟨e.heap.size,1,none⟩) za _
 .unfold qX;rw[d.out];omega
theorem aaL(b:Nat)(a:Int)(e:a<0\/32<a):Calls prog 142 #[ab b,X a] f λd g=>d=.returned (.tuple #[.int .u32 0,X 1])/\f=g:=by
 rcases e with e|e
 .have c:decide (a<0)=true:=kf;go_in;go_wp2;go_ret2;exact⟨rfl,rfl⟩
 .have c:decide (a<0)=false:=aw;have h:decide (32<a)=true:=kf;go_in;go_wp2;go_ret2;exact⟨rfl,rfl⟩
theorem FZ(c k:Nat)(h:af)(b e a:Nat)(g:b2 f c k h b e)(q:a<=32)(s:b<e+a):Calls prog 142 #[ab c,X a] f λi l=>i=.returned (.tuple #[.int .u32 0,X 4])/\f.drew=l:=by
 obtain⟨d,_,n,r,t,_⟩:=g;have m:=d.au 1;have j:=d.au 2;simp only[b4,dt,dY]at m j;have p:decide ((a:Int)<0)=false:=U;have o:decide ((32:Int)<(a:Int))=false:=aw;go_in;go_wp2;go_region;all_goals go_wp2
 go_ret2;exact⟨rfl,rfl⟩
theorem aaM(c:af)(b:Nat)(a:Nat)(g:a<256)(f:c[b/8]? =some a):bits BinOp.and IntKind.u8 ((a:Int)/2^(7-b%8)) 1=((kA c b).toNat:Int):=by
 have e:((a:Int)/2^(7-b%8))=((a/2^(7-b%8):Nat):Int):=U;have i:a/2^(7-b%8)<=a:=Nat.div_le_self _ _;rw[e,show(1:Int)=((1:Nat):Int)from rfl,u8_and_nat _ _ Z Z,Nat.and_one_is_mod];unfold kA;rw[b9,f,lE,AF];have h:a/2^(7-b%8)%2<2:=nc _ Z;by_cases d:a/2^(7-b%8)%2=1
 .rw[d];simp
 .have:a/2^(7-b%8)%2=0:=Z;rw[this];simp
theorem aaN(a:Qah)(b:Bool)(d:a.length<32):bits BinOp.or IntKind.u32 ((num a:Int)*2%4294967296) ((b.toNat:Int))=(num (a++[b]):Int):=by
 have e:=tF a;have f:2^a.length<=2^31:=pz Z Z;have g:b.toNat<2:=by cases b<;>decide
 have c:((num a:Int)*2%4294967296)=((2*num a:Nat):Int):=Z;rw[c,u32_or_nat _ _ Z Z,Yy];have:=nat_join 1 (2*num a) b.toNat U Z;rw[this]
theorem aaO{wr:N}{d:Nat}{c a f:Nat}(e:b2 wr d b t l (c+a))(g:f=c+a)(j:c+a+1<=l):b2 (wr.setCell ⟨d,2,none⟩ (X ((f:Int)+1))).drew d b t l (c+(a+1)):=by subst g;refine⟨?_,(e.2.1.oA (b:=⟨d,2,none⟩) (hv e.ne) _).drew,Z,e.2.2.2⟩;have i:=(e.1.ma 2 (X (((c+a:Nat):Int)+1))).drew;have h:((c+(a+1):Nat):Int)=((c+a:Nat):Int)+1:=Z;rw[h];simpa using i
theorem F0(j r:Nat)(b:af)(g d e:Nat)(p:b2 f j r b g d)(zi:e<=32)(zk:d+e<=g):Calls prog 142 #[ab j,X e] f λG z=>G=.returned (.tuple #[.int .u32 (num (jv (dK b g) d e):Int),X 0])/\b2 z j r b g (d+e)/\V [j] f z:=by
 have W:=Y p;have zb:=p.ne;obtain⟨i,_,zc,zj,zl,_⟩:=p;have A:=i.au 1;have l:=i.au 2;simp only[b4,dt,dY]at A l;have D:decide ((e:Int)<0)=false:=U;have C:decide ((32:Int)<(e:Int))=false:=aw;have L:decide (((g:Int)-(d:Int))<(e:Int))=false:=aw;clear i;go_in;go_wp2;go_region;all_goals go_wp2
 clear A l D C L;go_loopw [6,30] (λv o wr=>∃a:Nat,a<=e/\o=X a/\v=.int .u32 (num (jv (dK b g) d a):Int)/\b2 wr j r b g (d+a)/\V [j] f wr) (λ_ o _=>e-(intOf o).toNat)
 .exact⟨0,jo _,rfl,rfl,W.out,(V.refl _ _).drew⟩
 .obtain⟨a,zf,rfl,rfl,n,u⟩:=hrel;by_cases za:a<e
  .have F:=Y n;obtain⟨i,x,H,I,ze,t⟩:=n;have J:=i.au 0;have l:=i.au 2;have zm:=i.eA 2;simp only[b4,dt,dY]at J l;have s:=x.au ((d+a)/8);obtain⟨k,c⟩:∃k,b[(d+a)/8]? =some k:=⟨_,cu Z⟩;have O:=t k (bS c);have y:(aC b).toArray[(d+a)/8]? =some (.int .u8 (k:Int)):=xa;rw[y]at s;have bC:=Y c;have Q:((d+a:Nat):Int)/8<(b.length:Int):=Z;have B:(0:Int)<=((d+a:Nat):Int)/8:=Z;have K:d+a<=8796093022208:=Z;obtain⟨h,q⟩:∃h,h=d+a:=⟨_,rfl⟩;have m:=Y q;rw[<-q]at l s Q B i K;clear c y q i x H I t;go_wp2_with fail
   go_region;all_goals go_wp2_with fail
   go_roundw
   .have w:=bC.out;rw[<-m.out]at w;have E:bits BinOp.or IntKind.u32 ((num (jv (dK b g) d a):Int)*2%4294967296) (bits BinOp.and IntKind.u8 ((k:Int)/2^(7-h%8)) 1%4294967296)=(num (jv (dK b g) d (a+1)):Int):=by
     rw[aaM b h k O w];have zh:(kA b h).toNat<2:=by cases kA b h<;>decide
     have P:((kA b h).toNat:Int)%4294967296=((kA b h).toNat:Int):=Z;have zd:=LM (dK b g) d a EJ;rw[P,aaN _ _ Z,<-LL _ _ _ _ (by rw[<-m.out];exact Az b g h (by have:=m.out;omega))]
    exact⟨a+1,Z,a8,by rw[E],aaO F.out m.out Z,(u.setCell (d:=⟨j,2,none⟩) (.inl U) _).drew⟩
   .simp[intOf];omega
  .go_wp2;go_ret2;have:a=e:=Z;subst this;exact⟨rfl,n,u⟩
theorem aaP(a:af):(aC a).length=a.length:=mo
def s'(b:af):ByteArray:=strOfNums (b.map (λ(a:Nat)=>(a:Int)))
theorem NN(a:af):(s' a).toList=a.map UInt8.ofNat:=by rw[ByteArray.toList_eq];unfold s';rw[strOfNums_data];simp
theorem WI:∀(d c:af),(∀a∈d,a<256)->(∀a∈c,a<256)->d.map UInt8.ofNat=c.map UInt8.ofNat->d=c
 |[],[],_,_,_=>rfl
 |[],_::_,_,_,e=>r5
 |_::_,[],_,_,e=>r5
 |g::d,b::c,f,h,e=>by
  simp only[cj,wC]at e;have j:=f g U;have k:=h b U;have i:g=b:=by have:=aX UInt8.toNat e.1;simp only[UInt8.toNat_ofNat']at this;omega
  rw[i,WI d c (λa l=>f a pv) (λa l=>h a pv) e.2]
theorem NO{a:N}{b:Nat}(g:aF a x 1 l (aC t)):(convert 57 9 (.slice x l b)).run prog a=.ok (.string (s' t)) a:=by
 have h:t.length=l:=by have:=g.1;simpa[aC]using this
 rcases mV l with c|c
 .subst c;obtain rfl:t=[]:=mb h;rw[run_convert_bytes_string a 57 9 5 x 0 b underlying57 underlying5 underlying9];cases x with
  |none=>simp[Conv.bytesToString,s',strOfNums];rfl
  |some f=>rw[run_bytesToString a f 0 b [] (by simpa using run_loadCells_list (P:=prog) a f [] U)];rfl
 .obtain⟨d,rfl,i⟩:=g.2 c;rw[run_convert_bytes_string a 57 9 5 _ l b underlying57 underlying5 underlying9];have e:=run_loadCells_list (P:=prog) a d (aC t) i;rw[aaP,h]at e;rw[run_bytesToString a d l b (t.map (λ(l:Nat)=>(l:Int))) (by rw[e];simp[aC]),foldl_push_bytes];simp[s',strOfNums,ByteArray.empty,ByteArray.emptyWithCapacity];rfl
theorem F1(n g:Qae)(e j d i:Nat)(b a:af)(l:aF f n 1 e (aC b))(o:aF f g 1 j (aC a))(k:∀c∈b,c<256)(h:∀c∈a,c<256):Calls prog 40 #[.slice n e d,.slice g j i] f λr t=>r=.returned (.bool (decide (b=a)))/\f=t:=by
 have u:=NO (b:=d) l;have w:=NO (b:=i) o;have m:((s' b).toList==(s' a).toList)=decide (b=a):=by rw[NN,NN,Bool.eq_iff_iff];simp only[iz,mX];exact⟨WI b a k h,λq=>by rw[q]⟩
 have p:=Y m;clear m k h l o;go_in;go_wp2;go_ret;exact⟨aX (λs=>Ending.returned (.bool s)) p.out,rfl⟩
theorem NP(a:Qah):(bh a).getLastD 0=ff (a++[true]) (a.length/8):=by rw[r6,r7,r2];simp only[EK];have:=LN (a++[true]) (a.length/8);rw[<-this,b9];rfl
theorem F2(b:Qah)(a:Nat)(e:a<=7-b.length%8):((bh b).getLastD 0).testBit a=decide (a=7-b.length%8):=by
 rw[NP,wz,fF (by omega:a<8),yR,b9];by_cases c:a=7-b.length%8
 .have d:8*(b.length/8)+(7-a)=b.length:=Z;rw[d,fF c];simp
 .rw[fN aw,e7 c];rfl
theorem uu(a:Qah):(bh a).getLastD 0≠0:=by intro b;have:=F2 a (7-a.length%8) (a' _);rw[b]at this;simp at this
theorem aaQ{a c:Nat}(k:a<256)(e:a.testBit c=true)(i:∀d,d<c->a.testBit d=false):Lib.trailingZeros8 a=c:=by
 have l:a≠0:=by rintro rfl;simp at e
 obtain⟨f,g,j⟩:=LK ⟨a,k⟩ l;simp only at f g j;have h:a.testBit (Lib.trailingZeros8 a)=true:=by rw[AF];simpa using f
 rcases F3 (Lib.trailingZeros8 a) c with b|b|b
 .rw[i _ b]at h;cases h
 .exact b
 .have:(a%2^Lib.trailingZeros8 a).testBit c=true:=by rw[Nat.testBit_mod_two_pow,fF b,e];rfl
  rw[g]at this;simp at this
theorem NQ(a:Qah):qX (bh a)=a.length:=by have c:=aaQ (c:=7-a.length%8) (a:=(bh a).getLastD 0) (by rw[NP];exact EG _ _) (by rw[F2 a _ (a' _)];simp) (λb d=>by rw[F2 a b Z];simp;omega);unfold qX;rw[c,r2];omega
def uv(c b:Nat)(a:Int):Int:=if a<0\/32<a then 1 else if c<b+a.toNat then 4 else 0
def BG(c:Qah)(a:Nat)(b:Int):Nat:=if uv c.length a b=0 then num (jv c a b.toNat)else 0
def BH(c a:Nat)(b:Int):Nat:=if uv c a b=0 then a+b.toNat else a
theorem aaR(c i:Nat)(e:af)(a d:Nat)(b:Int)(j:b2 f c i e a d):Calls prog 142 #[ab c,X b] f λk g=>k=.returned (.tuple #[.int .u32 (BG (dK e a) d b:Int),X (uv a d b)])/\b2 g c i e a (BH a d b)/\V [c] f g:=by
 have p:b2 f.drew c i e a d:=j.S ((V.refl [] _).drew) U U;unfold BG BH;rw[wA];unfold uv;by_cases m:b<0\/32<b
 .simp only[ae m];refine(aaL f c b m).mono ?_;rintro k g ⟨rfl,rfl⟩;exact⟨rfl,j,V.refl _ _⟩
 .simp only[M m];obtain⟨h,rfl⟩:∃h:Nat,b=h:=⟨b.toNat,Z⟩;simp only[gx];by_cases l:a<d+h
  .simp only[ae l];refine(FZ f c i e a d h j Z l).mono ?_;rintro k g ⟨rfl,rfl⟩;exact⟨rfl,p,(V.refl _ _).drew⟩
  .simp only[M l];refine(F0 f c i e a d h j Z Z).mono ?_;rintro k g ⟨rfl,n,o⟩;exact⟨rfl,n,o⟩
theorem aaS(v:Nat)(d:v<=65534):Lib.bitLen (v+1)=fG v+1:=by obtain⟨e,a,b,c,_⟩:=YI (v+1) Z Z;rw[a,YM b c]
def n4(v:Int):Int:=if v<0\/65534<v then 2 else 0
def dh(v:Int):Qah:=if n4 v=0 then code v.toNat else[]
def NR(v:Int):Int:=if n4 v=0 then 2*(fG v.toNat:Int)+1 else 0
theorem aaT(a:n4 v=0):0<=v/\v<=65534:=by
 unfold n4 at a;split at a
 .cases a
 .omega
theorem BI(v:Int):(dh v).length<=31:=by
 unfold dh;split
 .rename_i h;have:=aaT h;have:=AB (v:=v.toNat) Z;rw[AD];omega
 .simp
theorem NS(a:u:=by have c:=Y a;clear a;go_in;go_wp2;go_ret;exact⟨aX Ending.returned (aX (Value.int IntKind.i64) c.out),rfl⟩):u:=a
theorem aaU(v:Int)(e:-100000<=v/\v<=100000):Calls prog 292 #[X v] f λa d=>a=.returned (X (fold v:Int))/\f=d:=by
 by_cases b:0<v
 .have a:2*v-1=(fold v:Int):=by unfold fold;rw[ae b];omega
  exact NS
 .have a:-2*v=(fold v:Int):=by unfold fold;rw[M b];omega
  exact NS
theorem F4(a:u:=by go_in;go_wp2;go_ret;exact⟨rfl,b,by simpa using e.out,V.refl _ _,b3.refl _ _⟩):u:=a
theorem xb(h:Nat)(b:af)(j:Qah)(v:Int)(d:c0 f h b j)(G:-9223372036854775808<=v/\v<=9223372036854775807)(E:j.length<=1000000000):Calls prog 283 #[ab h,X v] f λc k=>c=.returned (X (n4 v))/\∃s,c0 k h s (j++dh v)/\V b f k/\b3 f b s:=by
 unfold dh n4;by_cases g:v<0
 .have y:decide (v<0)=true:=iD;simp only[ae (Or.inl g:v<0\/65534<v)];have e:=Y d;clear d;exact F4
 .have y:decide (v<0)=false:=aw;by_cases i:65534<v
  .have x:decide (65534<v)=true:=iB;simp only[ae (Or.inr i:v<0\/65534<v)];have e:=Y d;clear d;exact F4
  .have x:decide (65534<v)=false:=aw;simp only[M (by omega:¬(v<0\/65534<v)),eB];obtain⟨a,rfl⟩:∃a:Nat,v=a:=⟨v.toNat,Z⟩;simp only[gx];have p:=aaS a Z;have c:((a:Int)+1).toNat=a+1:=Z;have H:=AB (v:=a) Z;have r:=wB a;have B:=Y p;have t:=Y c;have u:=Y r;have e:=Y d;clear p c r d;go_in;go_wp2_with fail
   refine(YH _ _ Z Z).mono ?_;rintro c k ⟨rfl,rfl⟩;rw[t.out,B.out];have z:(((fG a+1:Nat):Int)-1)=(fG a:Int):=Z;go_wp2_with fail
   refine(pA _ _ _ _ 0 (fG a) e.out Z (wD _) Z).mono ?_;rintro c F ⟨rfl,J,C,n,o⟩;clear z;go_wp2_with fail
   have q:((a:Int)+1)%4294967296=((a+1:Nat):Int):=Z;have m:((fG a:Int)+1)=((fG a+1:Nat):Int):=Z;first|rw[q]|rw[show((a:Int)+1)=((a+1:Nat):Int)from Z]
   rw[m];clear q m;refine(pA _ _ _ _ (a+1) (fG a+1) C Z u.out.2 F5).mono ?_;rintro c I ⟨rfl,w,l,A,D⟩;go_wp2_with fail
   go_ret;refine⟨rfl,w,?_,n.trans A o,o.trans n.size D⟩;rw[YN,b5]at l;exact l
def lP(v:Int):Int:=if v< -32767\/32767<v then 2 else 0
def dE(v:Int):Qah:=if lP v=0 then code (fold v)else[]
def NT(v:Int):Int:=if lP v=0 then 2*(fG (fold v):Int)+1 else 0
theorem NU(a:lP v=0):-32767<=v/\v<=32767:=by
 unfold lP at a;split at a
 .cases a
 .omega
theorem qY(v:Int):(dE v).length<=31:=by
 unfold dE;split
 .rename_i h;have a:=NU h;have:=AB (wG a.1 a.2);rw[AD];omega
 .simp
theorem aaV(b:lP v=0):n4 (fold v:Int)=0/\dh (fold v:Int)=dE v/\NR (fold v:Int)=NT v:=by
 have c:=NU b;have d:=wG c.1 c.2;have a:n4 (fold v:Int)=0:=by unfold n4;rw[M Z]
 refine⟨a,?_,?_⟩
 .unfold dh dE;rw[ae a,ae b];rfl
 .unfold NR NT;rw[ae a,ae b];rfl
theorem NV(a:u:=by
 have o:dE v=[]:=by unfold dE;rw[a];rfl
 rw[a,o];exact F4):u:=a
theorem qZ(d:Nat)(b:af)(h:Qah)(v:Int)(m:c0 f d b h)(z:-9223372036854775808<=v/\v<=9223372036854775807)(q:h.length<=1000000000):Calls prog 285 #[ab d,X v] f λc j=>c=.returned (X (lP v))/\∃k,c0 j d k (h++dE v)/\V b f j/\b3 f b k:=by
 have e:=Y m;by_cases g:v< -32767
 .have s:decide (v< -32767)=true:=iD;have a:lP v=2:=by unfold lP;rw[ae (Or.inl g)]
  exact NV
 .have s:decide (v< -32767)=false:=aw;by_cases i:32767<v
  .have n:decide (32767<v)=true:=iB;have a:lP v=2:=by unfold lP;rw[ae (Or.inr i)]
   exact NV
  .have n:decide (32767<v)=false:=aw;have a:lP v=0:=F6;obtain⟨l,t,_⟩:=aaV a;have A:=wG (v:=v) Z Z;rw[a,<-t];have x:=Y l;go_in;go_wp2_with fail
   refine(aaU _ _ Z).mono ?_;rintro c r ⟨rfl,rfl⟩;go_wp2_with fail
   refine(xb _ _ _ _ _ e.out Z q).mono ?_;rintro c r ⟨rfl,y,w,p,u⟩;rw[x.out];go_wp2_with fail
   go_ret;exact⟨rfl,y,w,p,u⟩
theorem b2.drew{c:N}{a f:Nat}{b:af}{d e:Nat}(g:b2 c a f b d e):b2 c.drew a f b d e:=g.S ((V.refl [] _).drew) U U
theorem aaW(b:af)(c a:Nat)(d:a<c):num (jv (dK b c) a 1)=(kA b a).toNat:=by
 have:=LL (dK b c) a 0 (kA b a) (by rw[fs];exact Az b c a d);have e:jv (dK b c) a 0=[]:=by simp[jv]
 rw[c',e]at this;rw[this];cases kA b a<;>rfl
theorem aaX(a:af)(b c d:Nat)(e:c+d<b):((dK a b).drop c)[d]? =some (kA a (c+d)):=by rw[pf];exact Az a b _ e
theorem aaY(c:af)(b a:Nat):((dK c b).drop a).length=b-a:=by simp[wA]
theorem aaZ{a:Qah}(e:d<=dk a)(c:a[d]? =some true):dk a=d:=by
 rcases AO e with b|b
 .exact b.symm
 .have:=LQ a d b;rw[this]at c;cases c
theorem aa0{a:Qah}(g:d<=dk a)(c:a[d]? =some false):d<dk a:=by
 rcases AO g with b|b
 .have f:dk a<a.length:=by
   rw[b]at c;rcases jn (dk a) a.length with e|e
   .exact e
   .rw[fN e]at c;cases c
  have:=LR a f;rw[<-b,c]at this;cases this
 .exact b
theorem aa1(a b:Nat)(g:a<=15)(f:b<2^a):(b:Int)<32768/\wrap64 (wrap64 (wrap64 (2^a)+(b:Int))-1)=((2^a+b-1:Nat):Int):=by have d:(2:Nat)^a<=2^15:=pz Z g;have c:=wD a;have e:(2^a:Int)=((2^a:Nat):Int):=U;rw[e];generalize 2^a=h at d c f;unfold wrap64;omega
theorem F7(g h:Nat)(b:af)(d c:Nat)(l:b2 f g h b d c):Calls prog 213 #[ab g] f λm K=>m=.returned (.tuple #[X (eg ((dK b d).drop c):Int),X (eu ((dK b d).drop c))])/\b2 K g h b d (c+dg ((dK b d).drop c))/\V [g] f K:=by
 obtain⟨e,C⟩:∃e,e=(dK b d).drop c:=⟨_,rfl⟩;rw[<-C];have zo:e.length=d-c:=by rw[C];exact aaY b d c
 have H:=Y C;have B:=Y zo;have u:=Y l;have zv:=l.2.2.1;have zA:=l.2.2.2.1;have zF:=l.2.2.2.2.1;have A:=l.1.au 0;have E:=l.1.au 1;have z:=l.1.au 2;simp only[b4,dt,dY]at A E z;have zB:=l.1.lt;have zD:=l.2.1.lt;go_in;go_wp2_with fail
 have q:b2 (f.alloc (.cells #[.slice (ab h) b.length b.length,X d,X c] 294)) f.heap.size h b d c:=⟨ag.aP _ _ _,u.out.2.1.alloc _,u.out.2.2⟩;have n:=u.out.S ((V.refl [] f).alloc (.cells #[.slice (ab h) b.length b.length,X d,X c] 294)) U U;have P:=(V.refl [] f).alloc (.cells #[.slice (ab h) b.length b.length,X d,X c] 294);generalize f.alloc (.cells #[.slice (ab h) b.length b.length,X d,X c] 294)=zw at q n P⊢;go_loopw [5] (λw wr=>∃a:Nat,a<=15/\a<=dk e/\w=X a/\b2 wr f.heap.size h b d (c+a)/\b2 wr g h b d c/\V [] f wr) (λw _=>16-(intOf w).toNat)
 .exact⟨0,jo _,jo _,rfl,q,n,P⟩
 .obtain⟨a,zj,J,rfl,q,n,W⟩:=hrel;have zC:=YR e;by_cases F:c+a<d
  .have y:e[a]? =some (kA b (c+a)):=by rw[H.out];exact aaX b d c a F
   go_wp2_with fail
   refine(F0 _ _ _ _ _ _ 1 q Z Z).mono ?_;rintro m O ⟨rfl,D,L⟩;rw[aaW b d (c+a) F];have r:=n.S L aw aw;have s:V [] f O:=W.first L U;generalize kA b (c+a)=fD at y⊢;cases fD with
   |true=>
    have t:=aaZ J y;have p:=Y t;by_cases zy:c+a+1+a<=d
    .go_wp2_with fail
     refine(F0 _ _ _ _ _ _ a D Z Z).mono ?_;rintro m o ⟨rfl,x,Q⟩;have zc:=LM (dK b d) (c+a+1) a EJ;have G:=tF (jv (dK b d) (c+a+1) a);rw[zc]at G;obtain⟨aU,zp⟩:=aa1 a _ zj G;have zs:jv (dK b d) (c+a+1) a=(e.drop (dk e+1)).take (dk e):=by rw[p.out,H.out,uw];unfold jv;rw[gk]
     have k:eu e=0:=by unfold eu;rw[p.out,M Z,M (by have:=B.out;omega)]
     have zm:eg e=2^a+num (jv (dK b d) (c+a+1) a)-1:=by unfold eg;rw[ae k,zs,p.out]
     have zl:dg e=2*a+1:=by unfold dg;rw[ae k,p.out]
     have j:=Y k;have za:=Y zm;have zh:=Y zl;have I:=Y zp;have i:=r.S Q aw aw;have A:=x.1.au 0;have E:=x.1.au 1;have z:=x.1.au 2;have zq:=i.1.au 0;have zf:=i.1.au 1;have zd:=i.1.au 2;have zx:=i.1.eA 0;have zz:=i.1.eA 1;have zE:=i.1.eA 2;simp only[b4,dt,dY]at A E z zq zf zd;generalize num (jv (dK b d) (c+a+1) a)=zt at aU I za⊢;go_wp2;go_ret2;have zr:=((i.1.ma 0 (.slice (ab h) b.length b.length)).ma 1 (X d)).ma 2 (X ((c+a+1+a:Nat):Int));have zi:=((i.2.1.oA (b:=⟨g,0,none⟩) (hv i.ne) (.slice (ab h) b.length b.length)).oA (b:=⟨g,1,none⟩) (hv i.ne) (X d)).oA (b:=⟨g,2,none⟩) (hv i.ne) (X ((c+a+1+a:Nat):Int));have ze:V [g] o (((o.setCell ⟨g,0,none⟩ (.slice (ab h) b.length b.length)).setCell ⟨g,1,none⟩ (X d)).setCell ⟨g,2,none⟩ (X ((c+a+1+a:Nat):Int))):=(((V.refl [g] o).setCell (d:=⟨g,0,none⟩) (.inl U) _).setCell (d:=⟨g,1,none⟩) (.inl U) _).setCell (d:=⟨g,2,none⟩) (.inl U) _;have zn:V [g] f o:=(s.first Q U).mono U;have zb:c+dg e=c+a+1+a:=by rw[zh.out];omega
     refine⟨?_,?_,zn.trans ze (b3.refl _ _)⟩
     .rw[j.out,za.out,<-I.out];rfl
     .rw[zb];refine⟨?_,zi,Z,u.out.2.2.2⟩;simpa using zr
    .go_wp2_with fail
     refine(FZ _ _ _ _ _ _ a D Z Z).mono ?_;rintro m o ⟨rfl,rfl⟩;have k:eu e=4:=by unfold eu;rw[p.out,M Z,ae (by have:=B.out;omega)]
     have j:=Y k;go_wp2;go_ret2;refine⟨?_,?_,(s.drew).mono U⟩
     .unfold eg;rw[j.out];rfl
     .unfold dg;rw[j.out];exact r.drew
   |false=>
    have t:=aa0 J y;by_cases zk:a=15
    .subst zk;have k:eu e=3:=by unfold eu;rw[ae Z]
     have j:=Y k;go_wp2;go_ret2;refine⟨?_,?_,s.mono U⟩
     .unfold eg;rw[j.out];rfl
     .unfold dg;rw[j.out];exact r
    .have zu:((a:Int)==15)=false:=beq_eq_false_iff_ne.2 Z;go_wp2;go_roundw
     .exact⟨a+1,Z,Z,a8,D,r,s⟩
     .simp[intOf];omega
  .go_wp2_with fail
   refine(FZ _ _ _ _ _ _ 1 q Z Z).mono ?_;rintro m O ⟨rfl,rfl⟩;have k:eu e=4:=by have:=B.out;have t:dk e=a:=Z;unfold eu;rw[t,M Z,ae Z]
   have j:=Y k;go_wp2;go_ret2;refine⟨?_,?_,(W.drew).mono U⟩
   .unfold eg;rw[j.out];rfl
   .unfold dg;rw[j.out];exact n.drew
theorem aa2(a:Qah):eg a<=65534:=by
 unfold eg;split
 .rename_i h;have e:dk a<16:=by
   unfold eu at h;split at h
   .cases h
   .omega
  have d:=tF ((a.drop (dk a+1)).take (dk a));have b:((a.drop (dk a+1)).take (dk a)).length<=dk a:=List.length_take_le _ _;have c:2^((a.drop (dk a+1)).take (dk a)).length<=2^dk a:=pz Z b;have f:2^dk a<=2^15:=pz Z Z;omega
 .omega
def hF(a:Qah):Int:=if eu a=0 then pw (eg a)else 0
theorem NW(a:u:=by
 have A:=Y n;clear n o;go_in;go_wp2_with fail
 refine j.out.mono ?_;rintro m w ⟨rfl,k,l⟩;go_wp2_with fail
 go_ret2;refine⟨?_,k,l⟩;rw[A.out,y.out];rfl):u:=a
theorem NX(i p:Nat)(d:af)(c g:Nat)(r:b2 f i p d c g):Calls prog 218 #[ab i] f λm t=>m=.returned (.tuple #[X (hF ((dK d c).drop g)),X (eu ((dK d c).drop g))])/\b2 t i p d c (g+dg ((dK d c).drop g))/\V [i] f t:=by
 obtain⟨a,s⟩:∃a,a=(dK d c).drop g:=⟨_,rfl⟩;have q:=F7 f i p d c g r;rw[<-s]at q⊢;have j:=Y q;clear s r q;have u:=aa2 a;by_cases b:eu a=0
 .have x:(eu a !=0)=false:=by simpa using b
  have h:hF a=pw (eg a):=by unfold hF;rw[ae b]
  rw[h];have y:=Y b;clear h b;generalize eg a=e at j u⊢;by_cases o:e%2=1
  .have z:((e:Int)%2==1)=true:=aw;have n:pw e=((e:Int)+1)/2:=by unfold pw;rw[ae o]
   exact NW
  .have z:((e:Int)%2==1)=false:=beq_eq_false_iff_ne.2 Z;have n:pw e=-((e:Int)/2):=by unfold pw;rw[M o]
   exact NW
 .have x:(eu a !=0)=true:=by simpa using b
  have h:hF a=0:=by unfold hF;rw[M b]
  rw[h];clear h b;go_in;go_wp2_with fail
  refine j.out.mono ?_;rintro m w ⟨rfl,k,l⟩;go_wp2_with fail
  go_ret2;exact⟨rfl,k,l⟩
def jy(v:Int):Bool:=decide (-4095<=v/\v<=4095)
def n9(c:aj)(b:Nat):Bool:=(List.range 64).all λa=>decide (a<b)||jy (c a)
theorem xc:n9 j r=true↔∀a,a<64->r<=a->-4095<=j a/\j a<=4095:=by
 unfold n9 jy;rw[ke];constructor
 .intro h a b c;have:=h a (fq.2 b);simp at this;omega
 .intro h a b;have d:=fq.1 b;by_cases c:a<r
  .simp[c]
  .have:=h a d Z;simp[this]
theorem aa3{a:Nat}(c:a<64)(e:r<=a)(b:jy (j a)=false):n9 j r=false:=by
 cases d:n9 j r with
 |false=>rfl
 |true=>have:=xc.1 d a c e;unfold jy at b;simp at b;omega
def dp(a:aj):Nat->Nat->Nat->List Bool
 |0,_,_=>[]
 |d+1,t,g=>if a t=0 then dp a d (t+1) g else dh ((t:Int)-g+1)++(dE (a t)++dp a d (t+1) (t+1))
theorem BJ(c:aj):∀(b a d:Nat),(dp c b a d).length<=62*b
 |0,_,_=>by simp[dp]
 |b+1,a,d=>by
  simp only[dp];split
  .have:=BJ c b (a+1) d;omega
  .have:=BJ c b (a+1) (a+1);have e:=BI ((a:Int)-d+1);have f:=qY (c a);simp only[aZ];omega
def lQ(b:aj)(a:Int):Int:=if a=0\/a=1 then(if n9 b a.toNat=true then 0 else 2)else 1
def ij(b:aj)(a:Int):Qah:=if lQ b a=0 then dp b (64-a.toNat) a.toNat a.toNat++dh 0 else[]
theorem NY(b:aj)(a:Int):(ij b a).length<=4000:=by
 unfold ij;split
 .have:=BJ b (64-a.toNat) a.toNat a.toNat;have c:=BI 0;rw[aZ];omega
 .simp
structure lR(c:aj)(b a d:Nat)(e:Qah):Prop where
 le:d<=a
 eq:dp c (64-b) b b=e++dp c (64-a) a d
theorem lR.dn(b:aj)(a:Nat):lR b a a a []:=⟨a' _,U⟩
theorem lR.skip{a:Nat}(c:lR j r a g i)(f:a<64)(d:j a=0):lR j r (a+1) g i:=by refine⟨Nat.le_succ_of_le c.le,?_⟩;rw[c.eq];obtain⟨b,e⟩:∃b,64-a=b+1:=⟨63-a,Z⟩;rw[e,show 64-(a+1)=b from Z,dp,ae d]
theorem lR.put{a:Nat}(c:lR j r a g i)(f:a<64)(d:j a≠0):lR j r (a+1) (a+1) ((i++dh ((a:Int)-g+1))++dE (j a)):=by refine⟨a' _,?_⟩;rw[c.eq];obtain⟨b,e⟩:∃b,64-a=b+1:=⟨63-a,Z⟩;rw[e,show 64-(a+1)=b from Z,dp,M d];simp
theorem lR.len{a:Nat}(b:lR j r a g i):i.length<=3968:=by have c:=aX List.length b.eq;have d:=BJ j (64-r) r r;rw[aZ]at c;omega
theorem lR.done(a:lR j r 64 g i):dp j (64-r) r r=i:=by rw[a.eq];simp[dp]
theorem NZ{a:Int}(b:¬(a=0\/a=1)):lQ j a=1/\ij j a=[]:=by
 have:lQ j a=1:=by unfold lQ;rw[M b]
 refine⟨this,?_⟩;unfold ij;rw[this,M Z]
theorem N0{a:Int}(b:a=0\/a=1)(c:n9 j a.toNat=false):lQ j a=2/\ij j a=[]:=by
 have:lQ j a=2:=by unfold lQ;rw[ae b,M (by simp[c])]
 refine⟨this,?_⟩;unfold ij;rw[this,M Z]
theorem F8{a:Int}(b:a=0\/a=1)(c:n9 j a.toNat=true):lQ j a=0/\ij j a=dp j (64-a.toNat) a.toNat a.toNat++dh 0:=by
 have:lQ j a=0:=by unfold lQ;rw[ae b,ae c]
 refine⟨this,?_⟩;unfold ij;rw[this,ae rfl]
def n'(a:Int):Bool:=decide (a=0\/a=1)
theorem F9(a:u:=by
 go_wp2_with fail
 go_ret;exact⟨by rw[b.out];rfl,rfl⟩):u:=a
theorem N1(a:Int):Calls prog 245 #[X a] f λc e=>c=.returned (.bool (n' a))/\f=e:=by
 go_in;by_cases d:a=0
 .subst d;exact AG
 .have ak:(a==0)=false:=by simpa using d
  have c:n' a=(a==1):=by unfold n';simp[d];rfl
  have b:=Y c;exact F9
theorem N2(v:Int):Calls prog 277 #[X v] f λc d=>c=.returned (.bool (jy v))/\f=d:=by
 go_in;by_cases a:-4095<=v
 .have b:=Y (show jy v=decide (v<=4095) by unfold jy;simp[a]);exact F9
 .have b:=Y (show jy v=false by unfold jy;simp[a]);have ak:decide (-4095<=v)=false:=e7 a;exact F9
theorem aa4(c a:Nat)(i:a<=63):(Instr.sliceAt 230 (ab c) (some (.int .i64 (a:Int))) none none).run prog f=.ok (.slice (some ⟨c,a,none⟩) (64-a) (64-a)) f:=by
 have e:=qR (P:=prog) (w:=f) .i64 (a:Int) 64 .sliceB Z Z;obtain⟨b,d,g⟩:∃b,prog.info? 3=some b/\b.size=1:=by
  have:(prog.info? 3).map (·.size)=some 1:=ar;cases h:prog.info? 3 with
  |none=>rw[h]at this;cases this
  |some b=>rw[h]at this;simp at this;exact⟨b,rfl,this⟩
 simp[Instr.sliceAt,h7 underlying230,Instr.sliceBounds,Instr.sureAddr,sizeOf,typeInfo,d,g,e,ox];omega
theorem aa5{b:Qax}{a:Act}{d:N}{e:Qau}{c:Nat}(f:r<=63)(j:b.guard=none)(l:b.op=.slice 230 B (some e) none none)(k:a.eval B=ab c)(g:a.eval e=X r) (i:wpList prog o q z (a.put b.dst (.slice (some ⟨c,r,none⟩) (64-r) (64-r))) d):wpList prog o q (b::z) a d:=by refine jq j λm h=>?_;unfold Oper.wp execOp;simp only[l,hU,rW,k,g,eS,aa4 d c r f,gl];exact h _ _ i
theorem aa6(d:aj)(a:Nat)(C:a<=1):Calls prog 293 #[an .i64 64 d,X a] f λk s=>k=.returned (.bool (n9 d a))/\V [] f s:=by
 go_in;have z:((64-a:Nat):Int)=64-(a:Int):=Z;go_wp2_with(first|(refine ts (h:=d) rfl rfl rfl ?_;intro w o r l A)|(refine aa5 (r:=a) Z rfl rfl rfl rfl ?_))
 go_loopw [10] (λg wr=>∃b:Nat,b+a<=64/\g=X b/\Hid (∀c,c<b->jy (d (a+c))=true)/\o=wr) (λg _=>64-(intOf g).toNat)
 .exact⟨0,Z,rfl,λc i=>Z,rfl⟩
 .obtain⟨b,u,rfl,m,rfl⟩:=hrel;by_cases t:b+a<64
  .have n:=r.au (a+b);rw[dw Z]at n;have q:(b:Int)<64-(a:Int):=Z;go_wp2_with fail
   refine(N2 _ _).mono ?_;rintro k B ⟨rfl,rfl⟩;cases j:jy (d (a+b))with
   |true=>
    have p:=Y (show∀c,c<b+1->jy (d (a+c))=true from λc x=>by
     by_cases i:c=b
     .subst i;exact j
     .exact m.out c Z)
    go_wp2_with fail
    go_roundw
    .exact⟨b+1,Z,a8,p,trivial⟩
    .simp[intOf];omega
   |false=>
    have e:=Y (aa3 (j:=d) (r:=a) (a:=a+b) Z Z j);go_wp2_with fail
    go_ret;exact⟨by rw[e.out];rfl,l⟩
  .have q:64-(a:Int)<=(b:Int):=Z;have e:=Y (show n9 d a=true from xc.2 λh y D=>by have:=m.out (h-a) Z;rw[show a+(h-a)=h from Z]at this;unfold jy at this;simpa using this);go_wp2_with fail
   go_ret;exact⟨by rw[e.out];rfl,l⟩
theorem aa7{c:N}{d:Nat}(e:c0 c d D i):∀a∈D,a<c.heap.size:=by
 obtain⟨j,h,g,f,rfl⟩:=e;intro a b;rcases bu.1 b with rfl|b
 .exact g.lt
 .exact yM f a b
theorem N3{b:N}{a:Nat}(f:c0 b a D i)(c:V [] b A):c0 A a D i:=by obtain⟨e,d,g,h,rfl⟩:=f;exact⟨e,d,g.S c U,qq h c (λ_ _=>eC),rfl⟩
theorem F'(a:0<=v)(b:v<=65534):n4 v=0:=by unfold n4;rw[M Z]
theorem N4(a:-4095<=v)(b:v<=4095):lP v=0:=F6
theorem N5(s:Nat)(g:af)(t:Qah)(b:aj)(h:Int)(c:c0 f s g t)(zN:t.length<=900000000):Calls prog 286 #[ab s,an .i64 64 b,X h] f λl zh=>l=.returned (X (lQ b h))/\∃m,c0 zh s m (t++ij b h)/\V g f zh/\b3 f g m:=by
 have zl:=aa7 c;have zy:=Y zl;have zx:=Y c;go_in;go_wp2_with(refine ts (h:=b) rfl rfl rfl ?_;intro k zQ zc K zU)
 refine(N1 _ _).mono ?_;rintro l zI ⟨rfl,rfl⟩;have O:=Y (N3 zx.out K);by_cases r:h=0\/h=1
 .have zB:n' h=true:=by unfold n';exact fF r
  obtain⟨d,rfl⟩:∃d:Nat,h=(d:Int):=⟨h.toNat,Z⟩;have zk:d<=1:=Z;have G:((d:Int)).toNat=d:=gx _;go_wp2_with(refine nJ (h:=b) zc rfl rfl rfl ?_)
  refine(aa6 _ b d zk).mono ?_;rintro l ze ⟨rfl,z⟩;have w:=zc.S z U;have zf:=Y (N3 O.out z);have C:=K.ad z;have I:Hid (k∉g):=Y (λc=>by have:=zy.out k c;omega);cases H:n9 b d with
  |false=>
   have e:=Y (N0 (j:=b) r (by rw[G];exact H));go_wp2_with fail
   go_ret;exact⟨by rw[e.out.1];rfl,g,by rw[e.out.2,eG];exact zf.out,C.mono U,b3.refl _ _⟩
  |true=>
   have e:=Y (F8 (j:=b) r (by rw[G];exact H));rw[G]at e;have bC:=Y (xc.1 H);go_wp2_with fail
   go_loopw [7,8] (λzi A wr=>∃a i:Nat,d<=a/\a<=64/\A=X a/\zi=X ((i:Int)-1)/\∃n,Hid (lR b d a i n)/\∃m,Hid (c0 wr s m (t++n))/\Hid (k∉m)/\Hid (V g ze wr)/\Hid (b3 ze g m)) (λ_ A _=>64-(intOf A).toNat)
   .exact⟨d,d,a' _,Z,rfl,a8,[],lR.dn _ _,g,by rw[eG];exact zf,I,V.refl _ _,b3.refl _ _⟩
   .obtain⟨a,i,zn,zP,rfl,rfl,n,o,zs,D,za,j,q⟩:=hrel;have zS:=o.out.len;have zJ:=o.out.le;by_cases p:a<64
    .have zD:=w.S j.out I.out;have Q:=zD.au a;rw[dw p]at Q;have zd:=bC.out a p zn;have zT:decide ((a:Int)<64)=true:=fF Z;by_cases y:b a=0
     .have E:=Y (o.out.skip p y);rw[y]at Q;go_wp2_with fail
      go_roundw
      .exact⟨a+1,i,Z,Z,a8,rfl,n,E,zs,D,za,j,q⟩
      .simp[intOf];omega
     .have zM:(b a==0)=false:=by simpa using y
      have E:=Y (o.out.put p y);have zK:=BI ((a:Int)-i+1);have zR:=qY (b a);have zu:=F' (v:=(a:Int)-i+1) Z Z;have zC:=N4 zd.1 zd.2;have zO:(a:Int)-((i:Int)-1)=(a:Int)-i+1:=Z;go_wp2_with fail
      refine(xb _ _ _ _ _ D.out Z (by rw[aZ];omega)).mono ?_;rintro l zF ⟨rfl,B,F,J,x⟩;have u:=Y (j.out.trans J q.out);have P:=Y (q.out.trans j.out.size x);have zo:k∉B:=λc=>by
       rcases x k c with c|c
       .exact za.out c
       .have:=w.lt;have:=j.out.size;omega
      have zA:=Y zo;have zv:=Y F;have zm:=w.S u.out I.out;have zz:=zm.au a;rw[dw p]at zz;rw[zu];go_wp2_with fail
      refine(qZ _ _ _ _ _ zv.out Z (by rw[aZ,aZ];omega)).mono ?_;rintro l zL ⟨rfl,L,zt,zp,W⟩;have zG:=Y (u.out.trans zp P.out);have zr:=Y (P.out.trans u.out.size W);have zE:k∉L:=λc=>by
       rcases W k c with c|c
       .exact zA.out c
       .have:=w.lt;have:=u.out.size;omega
      have zj:=Y zE;have zb:=Y zt;rw[zC];rw[b5,b5,<-b5 n]at zb;go_wp2_with fail
      go_roundw
      .exact⟨a+1,a+1,Z,Z,a8,a8,_,E,L,zb,zj,zG,zr⟩
      .simp[intOf];omega
    .have zH:a=64:=Z;subst zH;have zq:=Y o.out.done;have zw:=F' (v:=0) Z Z;go_wp2_with fail
     refine(xb _ _ _ _ _ D.out Z (by rw[aZ];omega)).mono ?_;rintro l zF ⟨rfl,B,F,J,x⟩;rw[zw];go_wp2_with fail
     go_ret;refine⟨by rw[e.out.1];rfl,B,?_,?_,?_⟩
     .rw[e.out.2,zq.out,<-b5];exact F
     .exact(C.mono U).trans (j.out.trans J q.out) (b3.refl _ _)
     .exact b3.trans (b3.refl _ _) C.size (q.out.trans j.out.size x)
 .have zB:n' h=false:=by unfold n';exact e7 r
  have e:=Y (NZ (j:=b) r);go_wp2_with fail
  go_ret;exact⟨by rw[e.out.1];rfl,g,by rw[e.out.2,eG];exact O.out,K.mono U,b3.refl _ _⟩
theorem aa8(a:0<=v/\v<=65534):dh v=code v.toNat:=by unfold dh;rw[ae (F' a.1 a.2)]
theorem aa9(a:-4095<=v/\v<=4095):dE v=code (fold v):=by unfold dE;rw[ae (N4 a.1 a.2)]
theorem N6:prog.built 230 []=some (an .i64 64 λ_=>0):=ar
theorem N7{a:Qax}{b:Act}{c:N}(f:cB a o b)(g:a.op=.build 230 #[]) (e:wpList prog o q z (b.put a.dst (.agg (an .i64 64 λ_=>0))) c):wpList prog o q (a::z) b c:=nf λh d=>by
 rw[ae f];refine q0 _ #[] g ?_ ?_
 .simp only[gm,ee,N6];rfl
 .simp only[gm,ee,N6];exact d _ _ e
theorem Ga{a:Frame}{b:FrameMode}(c:a.mode=b):a={a with mode:=b}:=by subst c;rfl
theorem Gb:(binOp .neq 20 .nilIface .nilIface).run prog f=.ok (.bool false) f:=ar
theorem aba(b a:Qay)(c:N):CallsD prog 246 #[.pointer (some b),.pointer (some a)] .returning c λh e i=>h=.returned (.tuple #[])/\e=.returning/\i=c:=by
 refine BK Tryz.func246 rfl λk g d=>?_;apply wpS_seq;apply wpS_region;simp[wpOpsS,go_sem,recoverD,d,Tryz.ntmps246,Exit.thenS];refine wpS_of_wp ?_;rw[show #[Value.pointer (some b),Value.pointer (some a)]++((Array.replicate 15 undef).setIfInBounds 3 Value.nilIface).setIfInBounds 0 Value.nilIface=#[Value.pointer (some b),Value.pointer (some a),Value.nilIface,undef,undef,Value.nilIface,undef,undef,undef,undef,undef,undef,undef,undef,undef,undef,undef]from rfl];have j:=Gb;have f:=Y d;go_wp2_with fail
 exact⟨rfl,.returning,aX (·::g) (Ga f.out),.tuple #[],by simp[results,Tryz.results246],rfl,rfl,rfl⟩
theorem abb(b:Int)(a:N):(binOp .neq 20 (mn b) .nilIface).run prog a=.ok (.bool true) a:=by rfl
theorem abc(b:Int)(a:N):(eqGuard .neq 20 (.tmp 6) (.const .nilIface) (mn b) .nilIface).run prog a=.ok () a:=by rfl
theorem abd(a:Int)(b:N):(Instr.typeAssert (mn a) 20 367 true).run prog b=.ok (.tuple #[.agg #[X a],.bool true]) b:=by rfl
theorem abe(c a:Nat)(t:aj)(b j:Int)(d:N)(q:ag d c 230 (an .i64 64 t))(r:ag d a 36 #[X j])(h:c≠a):CallsD prog 246 #[ab c,ab a] (.panicking [{v:=mn b,recovered:=false}]) d λu p i=>u=.returned (.tuple #[])/\p=.panicking [{v:=mn b,recovered:=true}]/\ag i c 230 (an .i64 64 λ_=>0)/\ag i a 36 #[X b]/\V [c,a] d i:=by
 refine BK Tryz.func246 rfl λH D l=>?_;apply wpS_seq;apply wpS_region;simp[wpOpsS,go_sem,recoverD,l,Tryz.ntmps246,Exit.thenS];refine wpS_of_wp ?_;rw[show #[Value.pointer (some (⟨c,0,none⟩:Qay)),Value.pointer (some (⟨a,0,none⟩:Qay))]++((Array.replicate 15 undef).setIfInBounds 3 (mn b)).setIfInBounds 0 (mn b)=#[Value.pointer (some ⟨c,0,none⟩),Value.pointer (some ⟨a,0,none⟩),mn b,undef,undef,mn b,undef,undef,undef,undef,undef,undef,undef,undef,undef,undef,undef]from rfl];have w:=abb b;have x:=abd b;have n:=abc b;generalize F:mn b=s at w x n⊢;have J:=Y l;go_wp2_with(first|(refine N7 rfl rfl ?_)|(refine mZ (L:=λ_=>0) q rfl rfl rfl rfl ?_;intro k z m I;have f:=r.S m (by simp[hv h]);obtain⟨g,aU⟩:=f.hc 0 (X 3);have E:k.cell? ⟨a,0,none⟩=some (.int .i64 j):=f.au 0;have G:=f.eA 0;have e:=g.alloc (.cells #[X b] 367);have B:((k.setCell ⟨a,0,none⟩ (X 3)).alloc (.cells #[X b] 367)).cell? ⟨a,0,none⟩=some (.int .i64 3):=e.au 0;have A:=e.eA 0;have K:=Y g;have C:=Y aU;have o:=Y e;clear g aU e))
 refine⟨rfl,.panicking [{v:=s,recovered:=true}],rfl,.tuple #[],by simp[results,Tryz.results246],rfl,rfl,?_,?_,?_⟩
 .exact((z.oA (b:=⟨a,0,none⟩) h _).alloc _).oA (b:=⟨a,0,none⟩) h _
 .exact o.out.ma 0 _
 .exact(((m.mono U).setCell (d:=⟨a,0,none⟩) (.inl U) _).alloc _).setCell (d:=⟨a,0,none⟩) (.inl U) _
def j9:aj:=λ_=>0
def gS:Nat->(Nat->Int)->Nat->List Bool->Int×(Nat->Int)×Nat
 |0,_,_,_=>(3,j9,0)
 |d+1,j,g,k=>
  if eu k≠0 then(eu k,j9,0)
  else if eg k=0 then(0,j,dg k)
  else if 63<g+eg k-1 then(3,j9,0)
  else if eu (k.drop (dg k))≠0 then(eu (k.drop (dg k)),j9,0)
  else if hF (k.drop (dg k))=0\/jy (hF (k.drop (dg k)))=false then(3,j9,0)
  else((gS d (aV j (g+eg k-1) (hF (k.drop (dg k)))) (g+eg k-1+1) ((k.drop (dg k)).drop (dg (k.drop (dg k))))).1,(gS d (aV j (g+eg k-1) (hF (k.drop (dg k)))) (g+eg k-1+1) ((k.drop (dg k)).drop (dg (k.drop (dg k))))).2.1,dg k+dg (k.drop (dg k))+(gS d (aV j (g+eg k-1) (hF (k.drop (dg k)))) (g+eg k-1+1) ((k.drop (dg k)).drop (dg (k.drop (dg k))))).2.2)
theorem N8:∀(d c:Nat)(b:aj)(a:Nat)(e:Qah),65-a<=d->65-a<=c->a<=64->gS d b a e=gS c b a e
 |0,c,b,a,e,g,h,f=>Z
 |d+1,0,b,a,e,g,h,f=>Z
 |d+1,c+1,b,a,e,g,h,f=>by
  simp only[gS];split
  .rfl
  .split
   .rfl
   .split
    .rfl
    .split
     .rfl
     .split
      .rfl
      .rw[N8 d c _ _ _ Z Z Z]
structure jz(e:Qah)(f:Nat)(d:Int×(Nat->Int)×Nat)(c:aj)(a b:Nat):Prop where
 le:f<=b
 a64:a<=64
 ux:d.1=(gS (65-a) c a (e.drop b)).1
 N9:d.2.1=(gS (65-a) c a (e.drop b)).2.1
 N':d.2.2+f=(gS (65-a) c a (e.drop b)).2.2+b
section
variable {i:Qah}{F:Nat}{p:Int×(Nat->Int)×Nat}{j:aj}{g c:Nat}
theorem jz.dn(c:Qah)(b a:Nat)(d:a<=64):jz c b (gS (65-a) j9 a (c.drop b)) j9 a b:=⟨a' _,d,rfl,rfl,rfl⟩
theorem jz.un(a:jz i F p j g c):∃b,65-g=b+1:=⟨64-g,by have:=a.a64;omega⟩
theorem jz.abf(a:jz i F p j g c)(b:eu (i.drop c)≠0):p.1=eu (i.drop c):=by obtain⟨e,d⟩:=a.un;rw[a.ux,d,gS,ae b]
theorem jz.fin(a:jz i F p j g c)(e:eu (i.drop c)=0)(f:eg (i.drop c)=0):p.1=0/\p.2.1=j/\F+p.2.2=c+dg (i.drop c):=by
 obtain⟨k,h⟩:=a.un;have b:gS (65-g) j g (i.drop c)=(0,j,dg (i.drop c)):=by rw[h,gS,M (by simp[e]),ae f]
 have d:=a.N';rw[b]at d;exact⟨by rw[a.ux,b],by rw[a.N9,b],by simp only at d;omega⟩
theorem jz.abg(a:jz i F p j g c)(b:eu (i.drop c)=0)(e:eg (i.drop c)≠0)(d:63<g+eg (i.drop c)-1):p.1=3:=by obtain⟨h,f⟩:=a.un;rw[a.ux,f,gS,M (by simp[b]),M e,ae d]
theorem jz.abh(a:jz i F p j g c)(d:eu (i.drop c)=0)(f:eg (i.drop c)≠0)(e:¬63<g+eg (i.drop c)-1)(b:eu (i.drop (c+dg (i.drop c)))≠0):p.1=eu (i.drop (c+dg (i.drop c))):=by obtain⟨k,h⟩:=a.un;rw[<-uw]at b⊢;rw[a.ux,h,gS,M (by simp[d]),M f,M e,ae b]
theorem jz.abi(a:jz i F p j g c)(e:eu (i.drop c)=0)(h:eg (i.drop c)≠0)(f:¬63<g+eg (i.drop c)-1)(b:eu (i.drop (c+dg (i.drop c)))=0) (d:hF (i.drop (c+dg (i.drop c)))=0\/jy (hF (i.drop (c+dg (i.drop c))))=false):p.1=3:=by obtain⟨l,k⟩:=a.un;rw[<-uw]at b d;rw[a.ux,k,gS,M (by simp[e]),M h,M f,M (λa=>a b),ae d]
theorem jz.step(a:jz i F p j g c)(q:eu (i.drop c)=0)(l:eg (i.drop c)≠0)(r:¬63<g+eg (i.drop c)-1)(n:eu (i.drop (c+dg (i.drop c)))=0) (o:¬(hF (i.drop (c+dg (i.drop c)))=0\/jy (hF (i.drop (c+dg (i.drop c))))=false)):jz i F p (aV j (g+eg (i.drop c)-1) (hF (i.drop (c+dg (i.drop c))))) (g+eg (i.drop c)-1+1) (c+dg (i.drop c)+dg (i.drop (c+dg (i.drop c)))):=by obtain⟨k,m⟩:=a.un;have b:=a.ux;have d:=a.N9;have e:=a.N';have t:=a.a64;have h:=n;have f:=o;rw[<-uw]at h f;rw[m,gS,M (by simp[q]),M l,M r,M (λa=>a h),M f]at b d e;have s:=N8 k (65-(g+eg (i.drop c)-1+1)) (aV j (g+eg (i.drop c)-1) (hF ((i.drop c).drop (dg (i.drop c))))) (g+eg (i.drop c)-1+1) (((i.drop c).drop (dg (i.drop c))).drop (dg ((i.drop c).drop (dg (i.drop c))))) Z Z Z;rw[s]at b d e;simp only[uw]at b d e;refine⟨by have:=a.le;omega,Z,b,d,?_⟩;omega
end
theorem Oa:an .i64 64 (λ_=>0)=an .i64 64 j9:=rfl
theorem Ob(a:Qah):(eg a:Int)<=65534:=by
 by_cases b:eu a=0
 .have d:dk a<=15:=by
   unfold eu at b;split at b
   .cases b
   .omega
  have f:=tF ((a.drop (dk a+1)).take (dk a));have c:((a.drop (dk a+1)).take (dk a)).length<=dk a:=aw;have e:2^((a.drop (dk a+1)).take (dk a)).length<=2^dk a:=pz Z c;have g:2^dk a<=2^15:=pz Z d;unfold eg;rw[ae b];omega
 .unfold eg;rw[M b];omega
theorem abj(a:Qah):-70000<=hF a/\hF a<=70000:=by
 have:=Ob a;unfold hF;split
 .unfold pw;split<;>omega
 .omega
def sr(i:N)(b h:Nat)(e:af)(f j:Nat)(a:Int×(Nat->Int)×Nat)(g:Ending)(d:N):Prop:=((a.1=0/\g=.returned (an .i64 64 a.2.1)/\b2 d b h e f (j+a.2.2))\/(a.1≠0/\g=.panicked [{v:=mn a.1,recovered:=false}]/\∃c,b2 d b h e f c))/\V [b] i d
theorem sr.bad{d:N}{a:Nat}{i g:Nat}{f:Int×(Nat->Int)×Nat}{c:Int}(e:f.1=c)(j:c≠0)(h:b2 A a b t l g)(k:V [a] d A):sr d a b t l i f (.panicked [{v:=mn c,recovered:=false}]) A:=⟨.inr ⟨by rw[e];exact j,by rw[e],g,h⟩,k⟩
theorem Oc(a:u:=by
 go_wp2_with fail
 exact⟨rfl,sr.bad j.out Z zJ.out zW.out⟩):u:=a
theorem abk(i E:Nat)(b:af)(a A:Nat)(zn:b2 f i E b a A)(F:Nat)(zaE:F<=1)(zt:Int×(Nat->Int)×Nat)(zI:gS (65-F) j9 F ((dK b a).drop A)=zt):Calls prog 247 #[ab i,X F] f (sr f i E b a A zt):=by
 have zq:=jz.dn (dK b a) A F Z;rw[zI]at zq;have zaa:=Y zq;have zz:=Y zn;have zaD:i<f.heap.size:=zn.1.lt;have zar:E<f.heap.size:=zn.2.1.lt;clear zn zq zI;go_in;refine fE λzw zE=>?_;go_wp2_with(first|(clear zw;refine k6 rfl rfl ?_;intro m zav D zo zF)|(clear zE;refine k6 rfl rfl ?_;intro d zaz zy zh zax))
 rw[Oa]at D zy;refine Od λt u l zf G=>?_;have zam:=Y t;have zag:=Y zy;clear D zo zh t zy zz;go_loopw [6] (λzs wr=>∃h c:Nat,h<=64/\zs=X ((h:Int)-1)/\∃C,Hid (jz (dK b a) A zt C h c)/\Hid (b2 wr i E b a c)/\Hid (ag wr m 230 (an .i64 64 j9))/\Hid (ag wr d 230 (an .i64 64 C))/\Hid (V [i] f wr)) (λzs _=>64-(intOf zs+1).toNat)
 .exact⟨F,A,Z,a8,j9,zaa,G,zam,zag,u.mono U⟩
 .obtain⟨h,c,zat,rfl,C,x,zH,zM,zO,zG⟩:=hrel;go_wp2_with fail
  refine(F7 _ i E b a c zH.out).mono ?_;have zZ:=Ob ((dK b a).drop c);have K:=Y (λz8=>x.out.abf z8);have za:=Y (λk n=>x.out.fin k n);have Q:=Y (λk n w=>x.out.abg k n w);have zc:=Y (λk n w ze=>x.out.abh k n w ze);have J:=Y (λk n w ze zD=>x.out.abi k n w ze zD);have P:=Y (λk n w ze zD=>x.out.step k n w ze zD);clear x;generalize zr:dg ((dK b a).drop c)=zd at K za Q zc J P⊢;generalize z':eg ((dK b a).drop c)=o at zZ K za Q zc J P⊢;generalize zv:eu ((dK b a).drop c)=zu at K za Q zc J P⊢;clear zr z' zv;rintro B zaq ⟨rfl,zU,zk⟩;have W:=Y zU;have zN:m≠i:=Z;have zT:d≠i:=Z;have zA:=Y (zM.out.S zk (by simpa using zN));have zC:=Y (zO.out.S zk (by simpa using zT));have O:=Y (zG.out.trans zk (b3.refl _ _));clear zU zk zM zO zG zH;go_wp2_with fail
  by_cases L:zu=0
  .subst L;refine(LS _ _).mono ?_;rintro B zak ⟨rfl,rfl⟩;by_cases r:o=0
   .subst r;refine fE λzw zE=>?_;go_wp2_with(first|(clear zw;refine nJ (h:=C) zC.out rfl rfl rfl ?_)|(clear zE;refine mZ (L:=C) zA.out rfl rfl rfl rfl ?_;intro zas z1 zK zau))
    refine bB (tr rfl z1 rfl) ?_;obtain⟨zX,zaf,zab⟩:=za.out lS lS;refine⟨.inl ⟨zX,by rw[zaf],?_⟩,?_⟩
    .rw[zab];exact W.out.S zK aw aw
    .exact O.out.trans zK (λzai e=>.inr Gc)
   .have zaB:((o:Int)==0)=false:=by simpa using r
    have zay:1<=(o:Int):=Z;by_cases H:63<h+o-1
    .have j:=Y (Q.out lS r H);have zad:64<=(h:Int)-1+o:=Z;clear H r;go_wp2_with fail
     exact⟨rfl,sr.bad j.out Z W.out O.out⟩
    .have zad:(h:Int)-1+o<64:=Z;refine aG (h+o-1) λg zS=>?_;have zao:(h:Int)-1+o=(g:Int):=Z;have zp:g<64:=Z;have zaw:h<=g:=Z;have z:=Y (zc.out lS r H);have q:=Y (J.out lS r H);have p:=Y (P.out lS r H);rw[zS]at p;clear H r zc J P Q K za zS;have zaC:decide (64<=(g:Int))=false:=e7 Z;go_wp2_with fail
     refine(NX _ i E b a (c+zd) W.out).mono ?_;have zae:=abj ((dK b a).drop (c+zd));generalize zr:dg ((dK b a).drop (c+zd))=zan at z q p⊢;generalize zY:hF ((dK b a).drop (c+zd))=v at zae z q p⊢;generalize zv:eu ((dK b a).drop (c+zd))=zx at z q p⊢;clear zr zY zv;rintro B zak ⟨rfl,zR,zi⟩;have zV:=Y zR;have zQ:=Y (zA.out.S zi (by simpa using zN));have zj:=zC.out.S zi (by simpa using zT);have zP:=Y (O.out.trans zi (b3.refl _ _));have zaj:=zj.au g;rw[dw zp]at zaj;have zap:=zj.eA g;obtain⟨zl,aU⟩:=zj.hc g (X v);rw[oD v zp]at zl;have zac:=zl.au g;rw[dw zp,show aV C g v g=v by simp[aV]]at zac;have z6:=Y zl;have zW:=Y (zP.out.trans aU (λzai e=>.inr Gd));have z7:=Y (zQ.out.S aU (by simpa using l));have zJ:=Y (zV.out.S aU aw aw);clear zR zi W zA zC O zj zl aU zQ;go_wp2_with fail
     by_cases I:zx=0
     .subst I;refine(LS _ _).mono ?_;rintro B zL ⟨rfl,rfl⟩;by_cases s:v=0
      .have j:=Y (q.out lS (.inl s));have zal:(v==0)=true:=by simpa using s
       clear s q p z;exact Oc
      .have zal:(v==0)=false:=by simpa using s
       go_wp2_with fail
       refine(N2 _ _).mono ?_;rintro B zaA ⟨rfl,rfl⟩;cases zm:jy v with
       |false=>have j:=Y (q.out lS (.inr zm));clear zm q p z s;exact Oc
       |true=>
        have j:=Y (p.out lS (by simp[zm,s]));clear zm q p z s;go_wp2_with fail
        go_roundw
        .exact⟨g+1,_,Z,a8,_,j,zJ,z7,z6,zW⟩
        .simp[intOf];omega
     .have j:=Y (z.out I);have zb:(zx !=0)=true:=by simpa using I
      have zB:ck (zx≠0):=I;refine(LU _ _ _ zb).mono ?_;rintro B zL ⟨rfl,rfl⟩;clear I zb;go_wp2_with fail
      exact⟨rfl,sr.bad j.out zB.out zV.out zP.out⟩
  .have j:=Y (K.out L);have zb:(zu !=0)=true:=by simpa using L
   have zB:ck (zu≠0):=L;refine(LU _ _ _ zb).mono ?_;rintro B zL ⟨rfl,rfl⟩;clear L zb;go_wp2_with fail
   exact⟨rfl,sr.bad j.out zB.out W.out O.out⟩
theorem abl:dJ 36 (.int .i64 0):=dM
theorem abm{a:Qax}{e:Act}{c:N}(g:a.guard=none)(h:a.op=.alloc 36)(f:∀b d,ag d b 36 #[X 0]->V [] c d->c.heap.size<=b->wpList prog o q z (e.put a.dst (ab b)) d):wpList prog o q (a::z) e c:=cw _ _ g h abl rfl f
theorem Ge{g:Func}(l:g.results=#[.cell 4 230,.cell 5 36]){b:Qad}{a:N}{d c:Nat}{f:aj}{e:Int}(m:ag a d 230 (an .i64 64 f))(i:ag a c 36 #[X e]) (j:b.getD 4 undef=ab d) (k:b.getD 5 undef=ab c):(results g b).run prog a=.ok (.tuple #[an .i64 64 f,X e]) a:=by
 have o:b[4]?.getD undef=ab d:=by simpa using j
 have n:b[5]?.getD undef=ab c:=by simpa using k
 have h:a.cell? ⟨c,0,none⟩=some (.int .i64 e):=i.au 0;have p:(loadVar 36 ⟨c,0,none⟩).run prog a=.ok (X e) a:=by simp[loadVar,h,go_sem]
 simp[results,l,o,n,asAddr,tn a d 230 230 _ (0,0) _ m underlying230 rfl (qC _),p]
def q2(a:Int)(b:Qah):Int×(Nat->Int)×Nat:=if a=0\/a=1 then gS (65-a.toNat) j9 a.toNat b else(1,j9,0)
def abn(i:N)(b h:Nat)(e:af)(f j:Nat)(a:Int×(Nat->Int)×Nat)(g:Ending)(d:N):Prop:=((a.1=0/\g=.returned (.tuple #[an .i64 64 a.2.1,X 0])/\b2 d b h e f (j+a.2.2))\/(a.1≠0/\g=.returned (.tuple #[an .i64 64 j9,X a.1])/\∃c,b2 d b h e f c))/\V [b] i d
theorem Oe{a:Prop}(b:a)(c:a->u:=by intro zb;exact(zb k aw aw).S q.out aw aw):u:=c b
theorem abo(a s:Nat)(o:af)(n j:Nat)(x:b2 f a s o n j)(b:Int)(h:Int×(Nat->Int)×Nat)(zt:q2 b ((dK o n).drop j)=h):Calls prog 219 #[ab a,X b] f (abn f a s o n j h):=by
 refine wq λO=>?_;have zz:=Y x;have zy:a<f.heap.size:=x.1.lt;have zC:s<f.heap.size:=x.2.1.lt;have K:=Y zt;go_enter_defers Tryz.func219,Tryz.ntmps219;go_wp2_with(first|(refine k6 rfl rfl ?_;intro m zx D zo zF)|(refine abm rfl rfl ?_;intro d zD L zh zA))
 rw[Oa]at D;refine Od λt u l zf G=>?_;refine(N1 _ _).mono ?_;rintro C zB ⟨rfl,rfl⟩;by_cases w:b=0\/b=1
 .have zm:n' b=true:=by unfold n';exact fF w
  obtain⟨i,rfl⟩:∃i:Nat,b=(i:Int):=⟨b.toNat,Z⟩;have zp:i<=1:=Z;have z:gS (65-i) j9 i ((dK o n).drop j)=h:=by have:=K.out;unfold q2 at this;rw[ae w,gx]at this;exact this
  have zu:=Y z;go_wp2_with fail
  refine(abk _ a s o n j G.out i zp h zu.out).mono ?_;rintro C zs ⟨ze,A⟩;have zv:m≠a:=Z;have zl:d≠a:=Z;have P:=t.S A (by simpa using zv);have za:=L.S A (by simpa using zl);have Q:V [a] f zs:=(u.mono U).trans A (b3.refl _ _);rcases ze with⟨F,rfl,I⟩|⟨F,rfl,c,I⟩
  .have H:=Y F;have E:=Y I;go_wp2_with(refine mZ (L:=h.2.1) P rfl rfl rfl rfl ?_;intro zc B k zj;have g:=za.S k (by simp[hv l]);have zn:=g.ah 0;have zr:=g.eA 0;obtain⟨p,aU⟩:=g.hc 0 (X 0);have J:=Y p;have q:=Y aU;clear p aU)
   refine BL (f:=246) (args:=#[ab m,ab d]) U (by simp[go_sem]) ?_;refine(aba ⟨m,0,none⟩ ⟨d,0,none⟩ _).mono ?_;rintro C zk zi ⟨rfl,rfl,rfl⟩;refine⟨_,Ge rfl (B.oA (b:=⟨d,0,none⟩) l _) J.out rfl rfl,.inl ⟨H.out,rfl,?_⟩,?_⟩
   .exact Oe E.out.S
   .exact(Q.trans k (λr e=>.inr Gc)).trans q.out (λr e=>.inr Gd)
  .have H:=Y F;have E:=Y I;go_wp2_with fail
   refine BL (f:=246) (args:=#[ab m,ab d]) U (by simp[go_sem]) ?_;refine(abe m d j9 h.1 0 _ P za l).mono ?_;rintro C zk zi ⟨rfl,rfl,zq,zw,W⟩;refine⟨_,Ge rfl zq zw rfl rfl,.inr ⟨H.out,rfl,c,?_⟩,?_⟩
   .exact E.out.S W aw aw
   .exact Q.trans W (λr e=>.inr (by simp at e;rcases e with rfl|rfl;exact zF;exact zf))
 .have zm:n' b=false:=by unfold n';exact e7 w
  have z:h=(1,j9,0):=by rw[<-K.out];unfold q2;rw[M w]
  subst z;go_wp2_with(first|(refine N7 rfl rfl ?_)|(refine mZ (L:=λ_=>0) t rfl rfl rfl rfl ?_;intro zc B k zj;have g:=L.S k (by simp[hv l]);have zn:=g.ah 0;have zr:=g.eA 0;obtain⟨p,aU⟩:=g.hc 0 (X 1);have J:=Y p;have q:=Y aU;clear p aU))
  refine⟨_,Ge rfl (B.oA (b:=⟨d,0,none⟩) l _) J.out rfl rfl,.inr ⟨U,rfl,j,?_⟩,?_⟩
  .exact Oe G.out.S
  .exact((u.mono U).trans k (λr e=>.inr Gc)).trans q.out (λr e=>.inr Gd)
section
theorem Gf(c:0<=v/\v<=65534)(b:Qah):eu (dh v++b)=0/\(eg (dh v++b):Int)=v/\dg (dh v++b)=(dh v).length:=by rw[aa8 c];have a:v.toNat<=65534:=Z;rw[wE a,EM a,EN a];exact⟨rfl,Z,rfl⟩
theorem abp(d:-4095<=v/\v<=4095)(a:Qah):eu (dE v++a)=0/\hF (dE v++a)=v/\dg (dE v++a)=(dE v).length:=by rw[aa9 d];have b:=wG (v:=v) Z Z;have c:=wE b a;refine⟨c,?_,EN b a⟩;unfold hF;rw[ae c,EM b,LP]
theorem Of(a b:Qah):(a++b).drop a.length=b:=U
theorem Gg(c:aj):∀(e a d:Nat)(h:aj)(g:Nat),a+e=64->d<=a->65-d<=g->(∀b,a<=b->h b=0)->(∀b,a<=b->b<64->-4095<=c b/\c b<=4095)->∀f,(gS g h d (dp c e a d++(dh 0++f))).1=0/\(gS g h d (dp c e a d++(dh 0++f))).2.2=(dp c e a d).length+(dh 0).length/\∀b,(gS g h d (dp c e a d++(dh 0++f))).2.1 b=if a<=b/\b<64 then c b else h b
 |0,a,d,h,g,D,E,w,p,q,f=>by
  obtain⟨j,rfl⟩:∃j,g=j+1:=⟨g-1,Z⟩;obtain⟨m,i,t⟩:=Gf (v:=0) Z f;have y:eg (dh 0++f)=0:=Z;have n:gS (j+1) h d (dp c 0 a d++(dh 0++f))=(0,h,(dh 0).length):=by simp only[dp,cU];rw[gS,M (λl=>l m),ae y,t]
  rw[n];refine⟨rfl,by simp[dp],λb=>?_⟩;rw[M Z]
 |e+1,a,d,h,g,D,E,w,p,q,f=>by
  by_cases o:c a=0
  .have n:dp c (e+1) a d=dp c e (a+1) d:=by simp only[dp];rw[ae o]
   rw[n];obtain⟨r,s,u⟩:=Gg c e (a+1) d h g Z Z w (λb k=>p b Z) (λb m i=>q b Z i) f;refine⟨r,s,λb=>?_⟩;rw[u b];by_cases k:b=a
   .subst k;rw[M Z,ae Z,p b Z,o]
   .by_cases i:a+1<=b/\b<64
    .rw[ae i,ae Z]
    .rw[M i,M Z]
  .obtain⟨j,rfl⟩:∃j,g=j+1:=⟨g-1,Z⟩;have x:=q a (a' _) Z;have n:dp c (e+1) a d++(dh 0++f)=dh ((a:Int)-d+1)++(dE (c a)++(dp c e (a+1) (a+1)++(dh 0++f))):=by simp only[dp];rw[M o];simp
   have B:(dp c (e+1) a d).length=(dh ((a:Int)-d+1)).length+(dE (c a)).length+(dp c e (a+1) (a+1)).length:=by simp only[dp];rw[M o];simp;omega
   rw[n,B];obtain⟨m,i,t⟩:=Gf (v:=(a:Int)-d+1) Z (dE (c a)++(dp c e (a+1) (a+1)++(dh 0++f)));obtain⟨C,G,A⟩:=abp x (dp c e (a+1) (a+1)++(dh 0++f));obtain⟨r,s,u⟩:=Gg c e (a+1) (a+1) (aV h a (c a)) j Z Z Z (λb k=>by unfold aV;rw[M Z];exact p b Z) (λb m i=>q b Z i) f;have F:d+eg (dh ((a:Int)-d+1)++(dE (c a)++(dp c e (a+1) (a+1)++(dh 0++f))))-1=a:=Z;have z:jy (c a)=true:=by unfold jy;exact fF x
   rw[gS,M (λl=>l m),M Z,F,M Z,t,Of,M (λl=>l C),G,M (by simp[o,z]),A,Of];refine⟨r,by simp only;rw[s];omega,λb=>?_⟩;simp only;rw[u b];unfold aV;by_cases k:b=a
   .subst k;rw[M Z,ae rfl,ae Z]
   .by_cases i:a+1<=b/\b<64
    .rw[ae i,ae Z]
    .rw[M i,M k,M Z]
end
theorem abq{a:Int}(e:lQ j a=0)(f:Qah):(q2 a (ij j a++f)).1=0/\(q2 a (ij j a++f)).2.2=(ij j a).length/\∀b,b<64->(q2 a (ij j a++f)).2.1 b=if a=1/\b=0 then 0 else j b:=by
 by_cases d:a=0\/a=1
 .cases h:n9 j a.toNat with
  |false=>rw[(N0 d h).1]at e;cases e
  |true=>
   have i:=xc.1 h;rw[(F8 d h).2];unfold q2;rw[ae d];obtain⟨c,rfl⟩:∃c:Nat,a=(c:Int):=⟨a.toNat,Z⟩;rw[gx]at i⊢;obtain⟨k,n,l⟩:=Gg j (64-c) c c j9 (65-c) Z (a' _) (a' _) (λ_ _=>rfl) (λb m g=>i b g m) f;rw[b5];refine⟨k,by rw[n,aZ],λb o=>?_⟩;rw[l b];by_cases g:(c:Int)=1/\b=0
   .rw[ae g,M Z];rfl
   .rw[M g,ae Z]
 .rw[(NZ d).1]at e;cases e
theorem nn(c:g≠b):g∉[b]:=λa=>c (df.1 a)
theorem V.up{a:N}(b:V [] a A):V C a A:=b.mono U
theorem oa{b:N}{a:Qay}{v:Qas}(c:b.cell? a=some v)(f:a.block∉C):∀d,V C b.drew d->d.cell? a=some v:=λ_ e=>(e.au (f' _ _ c) f).trans c
theorem BM{b:N}{a:Qay}{v:Qas}(c:b.cell? a=some v)(f:a.block∉C):∀d,V C b d->d.cell? a=some v:=λ_ e=>(e.au (f' _ _ c) f).trans c
section
variable {C:af}{s:Qav}{o:Qak}{q:Qab}{l:Nat}{w:Qai}{y:Qaj}{n:Qax}{g:Act}{f:N}{B:Qau}{T zb:Qat}{h P:Nat}{H aL:Qad}
theorem xd(c:bT s T aL.size)(d:ag f h zb H)(i:h∉C)(u:∀a,a<aL.size->H[P+a]? =aL[a]?)(m:cB n o g)(r:n.op=.load T B)(j:g.eval B=.pointer (some ⟨h,P,none⟩)) (k:ba (bA C) s o q l w y (g.put n.dst (aL)) f):ba (bA C) s o q l ((n,0)::w) y g f:=by obtain⟨b,e,t,p⟩:=c;refine rL _ m (λz x=>?_) k;have:=run_loadAt_mid (P:=s) z h P T aL.toList b ((d.S x i).r8 u) e (by cases b<;>first|rfl|cases t) mY;exact EY
theorem BN(a:bT s T H.size)(e:cB n o g)(j:n.op=.load T B)(i:g.eval B=ab h)(b:ag f h zb H)(c:h∉C) (d:ba (bA C) s o q l w y (g.put n.dst (H)) f):ba (bA C) s o q l ((n,0)::w) y g f:=xd a b c (λk _=>by rw[c']) e j i d
end
section
variable {o:Qak}{z:Qal}{n:Qax}{g:Act}{f:N}{q:Qaa}{B O cr zc:Qau}{L e:Qat}{x:Qae}{l I:Nat}
theorem abr(k:prog.underlying L=some (.slice e))(n:(prog.info? e).map (·.size)=some 1)(c:N)(f:Qae)(i d b a:Nat)(p:b<=a)(q:a<=d):(Instr.sliceAt L (.slice f i d) (some (.int .i64 (b:Int))) (some (.int .i64 (a:Int))) (some (.int .i64 (a:Int)))).run prog c=.ok (.slice (if a=b then f else f.map (·.add (b*1))) (a-b) (a-b)) c:=by obtain⟨o,g,m⟩:=AU n;have h:=qR (P:=prog) (w:=c) .i64 (b:Int) a .slice3C Z Z;have l:=qR (P:=prog) (w:=c) .i64 (a:Int) a .slice3B Z Z;have j:=qR (P:=prog) (w:=c) .i64 (a:Int) d .slice3Acap Z Z;simp[Instr.sliceAt,Instr.slice,h7 k,Instr.sliceBounds,sizeOf,typeInfo,g,m,h,l,j]
theorem Og(t:prog.underlying L=some (.slice e))(k:(prog.info? e).map (·.size)=some 1)(a b:Nat)(c:a<=b)(j:b<=I) (d:wpList prog o q z (g.put n.dst (.slice (if I=a then x else x.map (·.add (a*1))) (b-a) (I-a))) f) (h:n.guard=none:=by rfl) (s:n.op=.slice L B (some O) (some cr) none:=by rfl) (p:g.eval B=.slice x l I:=by rfl) (i:g.eval O=X a:=by rfl) (r:g.eval cr=X b:=by rfl):wpList prog o q (n::z) g f:=by refine jq h λu m=>?_;unfold Oper.wp execOp;simp only[s,hU,rW,p,i,r,eS,Mh t k f x l I a b c j,gl];exact m _ _ d
theorem abt(u:prog.underlying L=some (.slice e))(m:(prog.info? e).map (·.size)=some 1)(b a:Nat)(c:b<=a)(k:a<=I) (d:wpList prog o q z (g.put n.dst (.slice (if a=b then x else x.map (·.add (b*1))) (a-b) (a-b))) f) (h:n.guard=none:=by rfl) (t:n.op=.slice L B (some O) (some cr) (some zc):=by rfl) (r:g.eval B=.slice x l I:=by rfl) (i:g.eval O=X b:=by rfl) (s:g.eval cr=X a:=by rfl) (j:g.eval zc=X a:=by rfl):wpList prog o q (n::z) g f:=by refine jq h λw p=>?_;unfold Oper.wp execOp;simp only[t,hU,r,i,s,j,eS,abr u m f x l I b a c k,gl];exact p _ _ d
theorem fU{T:Qat}{parts:Array (Nat×Operand)}(a:Qad)(e:wpList prog o q z (g.put n.dst (a)) f) (h:n.guard=none:=by rfl) (i:n.op=.build T parts:=by rfl) (d:prog.built T (parts.map λ(c,b)=>(c,g.eval b)).toList=some a:=by kernel_rfl):wpList prog o q (n::z) g f:=y4 h _ parts i wa (by rw[d];exact e)
end
theorem en:bT prog 97 2:=⟨_,underlying97,rfl,ar⟩
theorem jV:dJ 97 (.agg #[X 0,.slice none 0 0]):=dM
def br(a:Int)(c:Qae)(b d:Nat):Qad:=#[X a,.slice c b d]
theorem jA(a:Int)(v:Qas)(b:v.oneCell'=true:=by rfl):(#[X a,v]:Qad).all (·.oneCell')=true:=by simp[b];rfl
def Gh(f g c e d:Nat):Prop:=∃b a,b<e/\a<c/\d=f+b*g+a
theorem Oh(g:af)(c d b:Nat)(f:af)(a e:Nat)(i:∀h,h<a+1->c+h*d+b<=g.length)(n:(a+1)*b<=f.length):(eX g c d b f (a+1))[e]? =if c+a*d<=e/\e<c+a*d+b then f[a*b+(e-(c+a*d))]? else(eX g c d b f a)[e]? :=by
 have o:=ms g c d b f a (λh q=>i h Z) (by rw[ia]at n;omega);have r:=i a Z;have p:(a+1)*b=a*b+b:=ia _ _;have j:((eX g c d b f a).take (c+a*d)).length=c+a*d:=by rw[kb];omega
 have k:((f.take ((a+1)*b)).drop (a*b)).length=b:=by rw[oB,kb];omega
 rw[eX];by_cases m:e<c+a*d
 .rw[M Z,b5,eE Z,pg,ae m]
 .by_cases l:e<c+a*d+b
  .rw[ae ⟨Z,l⟩,b5,db Z,j,eE Z,pf,pg,ae Z]
  .rw[M Z,db (by rw[aZ];omega),aZ,j,k,pf];congr 1;omega
theorem Oi{g j:af}{f e c:Nat}{h:af}{n:Nat->Prop}(p:g.length=j.length)(q:∀b,n b->g[b]? =j[b]?):∀a,(∀d,d<a->f+d*e+c<=g.length)->a*c<=h.length->∀b,(n b\/Gh f e c a b)->(eX g f e c h a)[b]? =(eX j f e c h a)[b]?
 |0,_,_,b,a=>by
  rcases a with a|⟨d,r,i,_⟩
  .exact q b a
  .omega
 |a+1,m,l,b,k=>by
  rw[Oh g f e c h a b m l,Oh j f e c h a b (λd i=>by rw[<-p];exact m d i) l];split
  .rfl
  .rename_i s;refine Oi p q a (λd i=>m d Z) (by rw[ia]at l;omega) b ?_;rcases k with k|⟨d,r,i,t,rfl⟩
   .exact .inl k
   .refine .inr ⟨d,r,?_,t,rfl⟩;rcases jn d a with o|o
    .exact o
    .have:d=a:=Z;subst this;exact absurd ⟨Z,Z⟩ s
theorem abu{a:Nat}(i:0<b)(h:a<(b*m)*(b*p)):∃f g,f<m/\g<p/\Gh (b*g*(b*m)+b*f) (b*m) b b a:=by
 have k:0<b*m:=by
  rcases mV (b*m)with e|e
  .rw[e]at h;omega
  .exact e
 have o:a/(b*m)<b*p:=xe h;have n:a%(b*m)<b*m:=nc _ k;refine⟨a%(b*m)/b,a/(b*m)/b,xe n,xe o,a/(b*m)%b,a%(b*m)%b,nc _ i,nc _ i,?_⟩;have l:=xf a (b*m);have q:=xf (a/(b*m)) b;have j:=xf (a%(b*m)) b;generalize a%(b*m)=d at*;generalize a/(b*m)=c at*;rw[show b*(c/b)*(b*m)+b*(d/b)+c%b*(b*m)+d%b=(b*(c/b)+c%b)*(b*m)+(b*(d/b)+d%b) by rw[nO];omega,q,j,eF c];exact l.symm
def ob(a b:Nat)(f:af)(c:Nat->List Nat)(e:Nat):Nat->List Nat
 |0=>f
 |d+1=>eX (ob a b f c e d) (a*e*b+a*d) b a (c d) a
def pO(e b:Nat)(c:af)(a:Nat->Nat->List Nat)(d:Nat):Nat->List Nat
 |0=>c
 |w+1=>ob e b (pO e b c a d w) (a w) w d
theorem Oj(g:G<p)(f:J<m)(h:d<b):b*G*(b*m)+b*J+d*(b*m)+b<=b*m*(b*p):=by
 have e:(b*G+d+1)*(b*m)<=b*p*(b*m):=ix _ (by have:b*(G+1)<=b*p:=Nat.mul_le_mul_left _ g;rw[Nat.mul_succ]at this;omega);have a:(b*G+d+1)*(b*m)=b*G*(b*m)+d*(b*m)+b*m:=by rw[nO,nO,A0]
 have c:b*(J+1)<=b*m:=Nat.mul_le_mul_left _ f;rw[Nat.mul_succ]at c;rw[a,eF (b*p)]at e;omega
theorem BO{b c d h:Nat}{i:af}{f:Nat->List Nat}(j:h<d)(ak:i.length=b*c*(b*d))(g:∀a,a<c->(f a).length=b*b):∀a,a<=c->(ob b (b*c) i f h a).length=b*c*(b*d)
 |0,_=>ak
 |a+1,k=>by have e:=BO j ak g a Z;rw[ob,ms _ _ _ _ _ _ (λm l=>by rw[e];exact Oj j k l) (by rw[g a k];exact a' _)];exact e
theorem xg{b c d:Nat}{h:af}{f:Nat->Nat->List Nat}(ak:h.length=b*c*(b*d))(g:∀a e,a<d->e<c->(f a e).length=b*b):∀a,a<=d->(pO b (b*c) h f c a).length=b*c*(b*d)
 |0,_=>ak
 |a+1,i=>BO i (xg ak g a Z) (λe j=>g a e i j) c (a' _)
def Gi(a d e g f:Nat):Prop:=∃b c,b<d/\(c<e\/c=e/\b<g)/\Gh (a*c*(a*d)+a*b) (a*d) a a f
theorem Ol{b d k e:Nat}{i l:af}{j:Nat->List Nat}(g:e<k)(ak:i.length=b*d*(b*k))(m:l.length=b*d*(b*k))(f:∀a,a<d->(j a).length=b*b)(n:∀c,Gi b d e 0 c->i[c]? =l[c]?):∀a,a<=d->∀c,Gi b d e a c->(ob b (b*d) i j e a)[c]? =(ob b (b*d) l j e a)[c]?
 |0,_,c,h=>n c h
 |a+1,p,c,h=>by
  have r:=BO g ak f a Z;have x:=BO g m f a Z;rw[ob,ob];refine Oi (by rw[r,x]) (Ol g ak m f n a Z) b (λz w=>by rw[r];exact Oj g p w) (by rw[f a p];exact a' _) c ?_;obtain⟨q,o,t,y,s⟩:=h;by_cases u:o=e/\q=a
  .obtain⟨rfl,rfl⟩:=u;exact .inr s
  .exact .inl ⟨q,o,t,Z,s⟩
theorem Om{b c g:Nat}{j k:af}{h:Nat->Nat->List Nat}(ak:j.length=b*c*(b*g))(i:k.length=b*c*(b*g))(e:∀a f,a<g->f<c->(h a f).length=b*b):∀a,a<=g->∀d,Gi b c a 0 d->(pO b (b*c) j h c a)[d]? =(pO b (b*c) k h c a)[d]?
 |0,_,d,⟨_,_,_,p,_⟩=>Z
 |a+1,l,d,⟨J,G,m,q,o⟩=>Ol l (xg ak e a Z) (xg i e a Z) (λf n=>e a f l n) (Om ak i e a Z) c (a' _) d ⟨J,G,m,Z,o⟩
theorem Gj{c:Nat->Nat->List Nat}(o:0<b)(ak:Q.length=b*m*(b*p))(d:W.length=b*m*(b*p))(a:∀g f,g<p->f<m->(c g f).length=b*b):pO b (b*m) Q c m p=pO b (b*m) W c m p:=by
 apply oM;intro e;have r:=xg ak a p (a' _);have q:=xg d a p (a' _);by_cases h:e<b*m*(b*p)
 .obtain⟨k,l,i,j,n⟩:=abu o h;exact Om ak d a p (a' _) e ⟨k,l,i,.inl j,n⟩
 .rw[fN Z,fN Z]
def hj(a:aq)(b:Nat->aq)(c:Nat):Nat->aq
 |0=>a
 |d+1=>oO (hj a b c d) d c (b d)
def ew(a:aq)(b:Nat->Nat->aq)(c:Nat):Nat->aq
 |0=>a
 |w+1=>hj (ew a b c w) (b w) w c
theorem On(b:aq)(c:Nat->aq)(d:Nat):∀a,hj b c d a=⟨b.w,b.h,ob 16 b.w b.y (λa=>(c a).y) d a,ob 8 (b.w/2) b.u (λa=>(c a).u) d a,ob 8 (b.w/2) b.v (λa=>(c a).v) d a⟩
 |0=>rfl
 |a+1=>by rw[hj,On b c d a];rfl
theorem Gk(b:aq)(c:Nat->Nat->aq)(e:Nat):∀a,ew b c e a=⟨b.w,b.h,pO 16 b.w b.y (λa d=>(c a d).y) e a,pO 8 (b.w/2) b.u (λa d=>(c a d).u) e a,pO 8 (b.w/2) b.v (λa d=>(c a d).v) e a⟩
 |0=>rfl
 |a+1=>by rw[ew,Gk b c e a,On];rfl
theorem abv{c l:aq}(k:c.dd)(q:l.dd)(n:l.w=c.w)(o:l.h=c.h){i:Nat->Nat->aq}(f:∀b a,b<c.h/16->a<c.w/16->(i b a).dN):ew c i (c.w/16) (c.h/16)=ew l i (c.w/16) (c.h/16):=by
 have y:=k.eN;have z:=k.ev;obtain⟨g,p⟩:∃g,c.w=16*g:=⟨c.w/16,Z⟩;obtain⟨h,r⟩:∃h,c.h=16*h:=⟨c.h/16,Z⟩;have x:c.w/16=g:=Z;have t:c.h/16=h:=Z;have j:c.w/2=8*g:=Z;have m:c.h/2=8*h:=Z;rw[x,t]at f⊢;have u:∀b a,b<h->a<g->(i b a).y.length=16*16:=λb a e d=>by rw[(f b a e d).d',(f b a e d).eN,(f b a e d).ev]
 have w:∀b a,b<h->a<g->(i b a).u.length=8*8:=λb a e d=>by rw[(f b a e d).eM,(f b a e d).eN,(f b a e d).ev]
 have s:∀b a,b<h->a<g->(i b a).v.length=8*8:=λb a e d=>by rw[(f b a e d).aR,(f b a e d).eN,(f b a e d).ev]
 rw[Gk,Gk,n,o,j,p];congr 1
 .exact Gj R (by rw[k.d',p,r]) (by rw[q.d',n,o,p,r]) u
 .exact Gj R (by rw[k.eM,j,m]) (by rw[q.eM,n,o,j,m]) w
 .exact Gj R (by rw[k.aR,j,m]) (by rw[q.aR,n,o,j,m]) s
theorem BP(a:u:=by
 go_in;go_wp2_with fail
 exact gJ rfl ⟨U,h.aa⟩):u:=a
theorem abw(c b:Nat)(j:c<=2)(i:b<256):Calls prog 96 #[X c,.int .u8 (b:Int)] a λe f=>e=.returned (X ((if b=0 then c+1 else 0:Nat):Int))/\V [] a f:=by
 have h:=ao.nil [] a;by_cases d:b=0
 .subst d;rw[ae rfl];exact BP
 .have g:((b:Int)==0)=false:=aw;rw[M d];exact BP
theorem abx{a:af}(b:a.length=d+1):a[d]? =some (a.getLastD 0):=by rw[r6,r7,show a.length-1=d from Z,cu Z];rfl
theorem Oo(j:Qae)(l:Nat)(b:af)(t:aF a j 1 b.length (aC b))(u:∀f∈b,f<256)(o:b.length<=1099511627776)(q:b=[]\/b.getLastD 0≠0):Calls prog 95 #[.slice j b.length l] a λg n=>g=.returned (.bool false)/\V [] a n:=by
 have h:=ao.nil [] a;rcases mV b.length with d|d
 .rw[d];exact BP
 .obtain⟨e,i⟩:∃e,b.length=e+1:=⟨b.length-1,Z⟩;obtain⟨s,w,rfl,k⟩:=t.plain d Z;have c:=abx i;have r:=q.resolve_left (λg=>by rw[g]at d;exact absurd d R);have p:=u _ (bS c);refine aG (b.getLastD 0) λf m=>?_;rw[m]at c r p;have y:a.cell? ⟨s,w+e,none⟩=some (.int .u8 (f:Int)):=k e _ xa;have x:((f:Int)==0)=false:=aw;rw[i]at o⊢;exact BP
theorem xh{g:N}{a:af}(j:aF g x 1 a.length (aC a))(l:∀d∈a,d<256)(i:0<a.length):∃f e,x=some ⟨f,e,none⟩/\∀b,b<a.length->∃d,a[b]? =some d/\d<256/\g.cell? ⟨f,e+b,none⟩=some (.int .u8 (d:Int)):=by obtain⟨f,e,rfl,h⟩:=j.plain i Z;refine⟨f,e,rfl,λb k=>?_⟩;have c:a[b]? =some a[b]:=cu k;exact⟨_,c,l _ (bS c),h b _ xa⟩
theorem BQ(a:u:=by
 go_wp2_with fail
 exact⟨⟨b+1,Z,s,a8,trivial⟩,bF⟩):u:=a
theorem BR(a:u:=by
 go_wp2_with fail
 exact gJ rfl ⟨rfl,V.refl _ _⟩):u:=a
theorem Oq(E:Qae)(H:Nat)(e:af)(k c:Nat)(zj:aF a E 1 e.length (aC e))(zm:∀W∈e,W<256)(L:e.length<=1099511627776)(zz:k<=c)(zc:c<=e.length)(q:∀z,k<=z->z<c->¬nQ e z)(d:nQ e c\/c=e.length):Calls prog 57 #[.slice E e.length H,X k] a λO J=>O=.returned (X c)/\V [] a J:=by
 have P:=Y zj;have zf:=Y zm;have K:=Y q;have C:=Y d;obtain⟨f,A⟩:∃f,f=e.length:=⟨_,rfl⟩;rw[<-A]at zc L⊢;have i:=Y A;go_in;go_wp2_with fail
 go_loopw [1] (λw wr=>∃b:Nat,k<=b/\b<=c/\w=X b/\a=wr) (λw _=>c-(intOf w).toNat)
 .exact⟨k,Z,Z,rfl,rfl⟩
 .obtain⟨b,Q,B,rfl,rfl⟩:=hrel;by_cases zB:b+4<=f
  .obtain⟨zD,zG,rfl,m⟩:=xh P.out zf.out hG;obtain⟨y,za,zy,zu⟩:=m b hG;obtain⟨u,ze,zw,zF⟩:=m (b+1) hG;obtain⟨x,zd,zq,zr⟩:=m (b+2) hG;obtain⟨n,zl,zH,zn⟩:=m (b+3) hG;have zs:(b:Int)<(f:Int):=Z;have zx:(b:Int)+1<(f:Int):=Z;have zo:(b:Int)+2<(f:Int):=Z;have zC:(b:Int)+3<(f:Int):=Z;have zv:(b:Int)+4<=(f:Int):=Z;have G:=Y (And.intro za (And.intro ze (And.intro zd zl)));have h:¬(y=0/\u=0/\x=1/\n≠0)->b+1<=c:=λI=>by
    have g:=G.out;have zh:¬nQ e b:=λ⟨t,r,p,zi,o,zk⟩=>by rw[g.1]at t;rw[g.2.1]at r;rw[g.2.2.1]at p;rw[g.2.2.2]at o;injection t with t;injection r with r;injection p with p;injection o with o;exact I ⟨t,r,p,o▸zk⟩
    rcases jn b c with j|j
    .exact j
    .have:b=c:=Z;subst this;rcases C.out with l|l
     .exact absurd l zh
     .have:=i.out;omega
   have h:=Y h;by_cases F:y=0
   .subst F;by_cases q:u=0
    .subst q;by_cases d:x=1
     .subst d;by_cases D:n=0
      .subst D;have s:=h.out U;exact BQ
      .have zp:((n:Int) !=0)=true:=aw;have B:b=c:=by
        rcases jn b c with j|j
        .have g:=G.out;exact absurd ⟨g.1,g.2.1,g.2.2.1,n,g.2.2.2,D⟩ (K.out b Q j)
        .omega
       subst B;exact BR
     .have zE:((x:Int)==1)=false:=aw;have s:=h.out r1;exact BQ
    .have zA:((u:Int)==0)=false:=aw;have s:=h.out (by simp[q]);exact BQ
   .have zt:((y:Int)==0)=false:=aw;have s:=h.out (by simp[F]);exact BQ
  .have j:¬((b:Int)+4<=(f:Int)):=Z;have zb:c=f:=by
    rcases C.out with⟨_,_,_,zi,l,_⟩|l
    .have:=(e8.1 l).1;have:=i.out;omega
    .have:=i.out;omega
   subst zb;exact BR
theorem Ot(s:Qae)(u:Nat)(e:af)(f c h:Nat)(J:aF a s 1 e.length (aC e))(K:∀k∈e,k<256)(D:e.length<=1099511627776)(ze:f<=c)(zf:c<=h)(w:h<=e.length)(z:∀b,c<=b->b<h->e[b]? =some 0)(G:c=f\/∃d k,c=d+1/\e[d]? =some k/\k≠0):Calls prog 58 #[.slice s e.length u,X f,X h] a λE A=>E=.returned (X c)/\V [] a A:=by
 have F:=Y J;have H:=Y K;have B:=Y z;have I:=Y G;obtain⟨l,o⟩:∃l,l=e.length:=⟨_,rfl⟩;rw[<-o]at w D⊢;have i:=Y o;go_in;go_wp2_with fail
 go_loopw [2] (λm wr=>∃d:Nat,c<=d/\d<=h/\m=X d/\a=wr) (λm _=>(intOf m).toNat)
 .exact⟨h,Z,Z,rfl,rfl⟩
 .obtain⟨d,za,zi,rfl,rfl⟩:=hrel;by_cases zc:f<d
  .obtain⟨b,rfl⟩:∃b,d=b+1:=⟨d-1,Z⟩;obtain⟨zd,zh,rfl,t⟩:=xh F.out H.out hG;obtain⟨r,p,zb,P⟩:=t b hG;have L:(f:Int)<(b:Int)+1:=Z;have W:(b:Int)<(l:Int):=Z;by_cases q:r=0
   .subst q;have n:c<=b:=by
     rcases jn b c with g|g
     .rcases I.out with x|⟨C,Q,x,j,y⟩
      .omega
      .have:C=b:=Z;subst this;rw[p]at j;injection j with j;exact absurd j.symm y
     .exact g
    go_wp2_with fail
    exact⟨⟨b,n,Z,a8,trivial⟩,by simp[intOf]⟩
   .have O:((r:Int)==0)=false:=aw;have n:c=b+1:=by
     rcases jn b c with g|g
     .omega
     .have:=B.out b g Z;rw[p]at this;injection this with this;exact absurd this q
    subst n;exact BR
  .have g:¬((f:Int)<(d:Int)):=Z;obtain rfl:c=d:=Z;obtain rfl:f=c:=Z;exact BR
