import Derived.Test.YtdmdbgabjcbjiaaGreatDoorA00
import Derived.Deep.Fields
import Derived.Deep.RegionHeld3
import Derived.Deep.WholeRow
import Derived.Great.BuildSlice
import Derived.OpenShut
import Derived.ProofKit
import Derived.StillTail
set_option maxHeartbeats 0
set_option maxRecDepth 100000
set_option linter.all false
namespace Go.Proofs.YtdmdbgabjcbjiaaGreatDoor
open Go.RowKit fD cr hs a7 _root_.Go.Proofs.Tryz
variable{w u y zi:Prop}{v I zn:Qas}{H:af}{zr g k D P l zw id r:Nat}{E p zv:Qat}{K:Qam}{b zo:Act}{zh:Qab}{f:Qaa}{c:Qak}{m s:Qal}{i zc:Qad}{L:aj}{F O zf:N}{q:Qaq}{Q:FuncId}{zk za:Qax}{C:Tmp}{zq:Operand->Value}{d:Qav}{zs:Qay}{zj:rD}{zd:Func}{G A J:Int}{zm:Array Bool->Act->Prop}(a:N)(h:aj)
structure V(d:af)(a b:N):Prop where
 os:b.os=a.os
 tape:b.tape=a.tape
 output:b.output=a.output
 size:a.heap.size<=b.heap.size
 block:∀c,c<a.heap.size->c∉d->b.heap[c]? =a.heap[c]?
def b3(b:N)(d c:af):Prop:=∀a∈c,a∈d\/b.heap.size<=a
section
variable {H zt x zx:af}{b A zl a F:N}
theorem V.refl(b:af)(a:N):V b a a:=⟨rfl,rfl,rfl,a' _,λ_ _ _=>rfl⟩
theorem b3.refl(b:N)(a:af):b3 b a a:=λ_ c=>.inl c
theorem b3.nil(a:N)(b:af):b3 a b []:=λ_ i=>l'
theorem V.trans(a:V H b A)(c:V zt A zl)(h:b3 b H zt):V H b zl:=⟨c.os.trans a.os,c.tape.trans a.tape,c.output.trans a.output,b7 a.size c.size,λd g e=>(c.block d (gD g a.size) (λi=>(h d i).elim (λf=>e f) (λf=>Z))).trans (a.block d g e)⟩
theorem b3.trans(d:b3 b H zt)(g:b.heap.size<=A.heap.size)(e:b3 A zt x):b3 b H x:=λc f=>(e c f).elim (λa=>d c a) (λa=>.inr (b7 g a))
theorem V.mono(b:V H a F)(g:∀c∈H,c∈x):V x a F:=⟨b.os,b.tape,b.output,b.size,λc f d=>b.block c f (λe=>d (g c e))⟩
theorem V.drew(c:V H b a):V H b a.drew:=⟨c.os,c.tape,c.output,c.size,c.block⟩
theorem V.alloc(c:V H b a)(f:Obj):V H b (a.alloc f):=⟨c.os,c.tape,c.output,b7 c.size U,λd e g=>(Below.heap_alloc a f d (gD e c.size)).trans (c.block d e g)⟩
theorem V.setCell(c:V H b a){d:Qay}(e:d.block∈H\/b.heap.size<=d.block)(h:Qas):V H b (a.setCell d h):=⟨c.os,c.tape,c.output,by simpa[World.setCell]using c.size,λg i f=>(Below.heap_setCell a d h g (by
 rintro rfl;rcases e with e|e
 .exact f e
 .omega)).trans (c.block g i f)⟩
theorem V.grown(d:V H b a){row:Option Nat}(e:a.grownBy F row)(i:∀c,row=some c->c∈H\/b.heap.size<=c):V H b F:=⟨e.os.trans d.os,e.tape.trans d.tape,e.output.trans d.output,b7 d.size e.size,λc g f=>(e.block c (gD g d.size) (λh=>(i c h.symm).elim f (λj=>Z))).trans (d.block c g f)⟩
theorem V.fv(b:V [] a F):Below a.heap.size a F:=⟨b.os,b.tape,b.output,b.size,λc d=>b.block c d U⟩
theorem V.ad(a:V H b A)(c:V [] A zl):V H b zl:=a.trans c (b3.nil _ _)
theorem V.first(d:V [] b A)(e:V H A zl)(c:∀a∈H,b.heap.size<=a):V [] b zl:=d.trans e (λa f=>.inr (c a f))
theorem V.au(e:V H a F){b:Qay}(d:b.block<a.heap.size)(c:b.block∉H):F.cell? b=a.cell? b:=World.cell?_of_block (e.block b.block d c)
theorem V.eA(e:V H a F){b:Qay}(d:b.block<a.heap.size)(c:b.block∉H):F.frozen? b=a.frozen? b:=World.frozen?_of_block (e.block b.block d c)
end
def ag(a:N)(b:Nat)(c:Qat)(d:Qad):Prop:=a.heap[b]? =some (.cells d c (0,0))
section
variable {a F:N}{n:Nat}{p:Qat}{i:Qad}
theorem ag.lt(b:ag a n p i):n<a.heap.size:=by
 rcases jn n a.heap.size with c|d
 .exact c
 .unfold ag at b;rw[hP d]at b;cases b
theorem ag.au(c:ag a n p i)(b:Nat):a.cell? ⟨n,b,none⟩=i[b]? :=cell_of_row a n b i p (0,0) c
theorem yK(a:w:=by(first|(simp only[b4,dY,dt];rfl)|(simp only[eJ,b4,dY,dt];rfl)|(simp only[c7,b4,dY,dt];rfl)|(simp only[al,b4,dY,dt];rfl)|(simp only[bl,b4,dY,dt];rfl)|(simp only[bQ,b4,dY,dt];rfl)|(simp only[br,b4,dY,dt];rfl)|(simp only[eK,b4,dY,dt];rfl)|(simp only[cs,b4,dY,dt];rfl)|(simp only[a1,b4,dY,dt];rfl)|(simp only[hb,b4,dY,dt];rfl)|(simp only[ct,b4,dY,dt];rfl)|(simp only[WJ,b4,dY,dt];rfl)|(simp only[fZ,b4,dY,dt];rfl)|(simp only[j',b4,dY,dt];rfl)|(simp only[qp,b4,dY,dt];rfl)|(simp only[ka,b4,dY,dt];rfl)|(simp only[mT,b4,dY,dt];rfl)|(simp only[mU,b4,dY,dt];rfl)|(simp only[bI,b4,dY,dt];rfl)|(simp only[fM,b4,dY,dt];rfl)|(simp only[rE,b4,dY,dt];rfl)|(simp only[du,b4,dY,dt];rfl)|(simp only[dc,dZ,cU,b4,dY,dt];rfl)|(simp only[c4,dZ,cU,b4,dY,dt];rfl)|(simp only[ay,cO,dZ,cU,b4,dY,dt];rfl)|(simp only[cd,bW,dZ,cU,b4,dY,dt];rfl)|(simp only[c5,dZ,cU,b4,dY,dt];rfl)|(simp only[dH,k0,bJ.k1,dZ,cU,b4,dY,dt];rfl))):w:=a
theorem az:(∀(b:Act)(f:Tmp)(v:Qas),b.put (some f) v={b with tmps:=b.tmps.setIfInBounds f v})/\(∀(b:Act)(v:Qas),b.put none v=b)/\(∀(a:Qam)(d:Nat)(v:Qas),a.toArray.setIfInBounds d v=(a.set d v).toArray)/\(∀(c v:Qas)(a:Qam),(c::a).set 0 v=v::a)/\∀(c v:Qas)(a:Qam)(e:Nat),(c::a).set (e+1) v=c::a.set e v:=⟨λ_ _ _=>rfl,λ_ _=>rfl,λa d v=>U,λ_ _ _=>rfl,λ_ _ _ _=>rfl⟩
theorem ag.ah(c:ag a n p i)(b:Nat)(d:i[b]? =some v:=by exact yK):a.cell? ⟨n,b,none⟩=some v:=(c.au b).trans d
theorem ag.eA(b:ag a n p i)(c:Nat):a.frozen? ⟨n,c,none⟩=false:=by unfold ag at b;simp[World.frozen?,b]
theorem ag.aP(a:N)(b:Qat)(c:Qad):ag (a.alloc (.cells c b)) a.heap.size b c:=heap_alloc_new a _
theorem ag.drew(b:ag a n p i):ag a.drew n p i:=b
theorem ag.alloc(b:ag a n p i)(c:Obj):ag (a.alloc c) n p i:=(Below.heap_alloc a c n b.lt).trans b
theorem ag.ma(c:ag a n p i)(b:Nat)(d:Qas):ag (a.setCell ⟨n,b,none⟩ d) n p (i.setIfInBounds b d):=by unfold ag at c⊢;simp[World.setCell,DH,c]
theorem ag.oA(e:ag a n p i){b:Qay}(d:n≠b.block)(c:Qas):ag (a.setCell b c) n p i:=(Below.heap_setCell a b c n d).trans e
theorem ag.S(b:ag a n p i)(c:V H a F)(d:n∉H):ag F n p i:=(c.block n b.lt d).trans b
theorem ag.DI{d:Qat}{f:Qad}(c:ag a n p i)(b:ag a zr d f)(e:p≠d):n≠zr:=by rintro rfl;unfold ag at c b;rw[c]at b;injection b with b;injection b with _ g;exact e g
theorem yL{h:Nat}{c:Nat}(d:a.ownsRow h E c v g K)(j:ag a n p i)(b:E≠p):v.ownBlock≠some n:=by
 rcases d.2 with⟨rfl,_⟩|⟨e,bH,k,rfl,_,f,_⟩
 .simp[Value.ownBlock]
 .intro he;have:e=n:=by simpa[Value.ownBlock]using he
  subst this;exact ag.DI (p:=E) f j b rfl
end
def dL(v:Qas):af:=v.ownBlock.toList
section
variable {a F:N}{zp:Nat}{E:Qat}{W g:Nat}{v:Qas}{K:Qam}
theorem qq(d:a.ownsRow zp E W v g K)(k:V H a F)(l:∀h∈dL v,h∉H):F.ownsRow zp E W v g K:=by
 refine⟨d.1,?_⟩;rcases d.2 with e|⟨b,bH,f,rfl,i,c,j⟩
 .exact .inl e
 .refine .inr ⟨b,bH,f,rfl,i,?_,j⟩;rw[k.block b (ht.1 c).1 (l b ta)];exact c
theorem yM(d:a.ownsRow zp E W v g K):∀c∈dL v,c<a.heap.size:=by
 intro c b;rcases d.2 with⟨rfl,_⟩|⟨f,bH,i,rfl,h,e,_⟩
 .simp[dL,Value.ownBlock]at b
 .simp[dL,Value.ownBlock]at b;subst b;exact(ht.1 e).1
theorem WK(d:a.ownsRow zp E W v g K):∃c b,v=.slice c g b:=by
 rcases d.2 with⟨rfl,rfl⟩|⟨e,bH,f,rfl,_⟩
 .exact⟨_,_,rfl⟩
 .exact⟨_,_,rfl⟩
theorem DJ(b:a.ownsRow zp E W v g K)(e:0<g):∃c d,v=.slice (ab c) g d/\g<=d:=by
 rcases b.2 with⟨rfl,rfl⟩|⟨c,bH,f,rfl,_,_,b,_⟩
 .omega
 .exact⟨_,_,rfl,b⟩
end
theorem WL(c:Qay)(b a:Nat):(c.add b).add a=c.add (b+a):=by unfold Addr.add;by_cases e:b=0<;>by_cases d:a=0<;>simp[e,d,gk]
theorem WM(a:Qay)(b:Nat):(a.add b).block=a.block:=by unfold Addr.add;split<;>rfl
theorem ox(b c a:Nat):(⟨b,c,none⟩:Qay).add a=⟨b,c+a,none⟩:=by unfold Addr.add;split<;>simp_all
def aF(g:N)(h:Qae)(f d:Nat)(b:Qam):Prop:=b.length=d*f/\(0<d->∃a,h=some a/\∀c e,b[c]? =some e->g.cell? (a.add c)=some e)
def vO(c:Qae)(b:Nat)(d:af):Prop:=0<b->∀a,c=some a->a.block∉d
section
variable {a F:N}{W g:Nat}{J:Qae}{K:Qam}{H:af}
theorem aF.none_:aF a J W 0 []:=⟨U,λb=>absurd b Z⟩
theorem aF.at_(d:aF a J 1 g K)(i:k<g):∃b e,J=some b/\K[k]? =some e/\a.cell? (b.add k)=some e:=by
 obtain⟨b,h,f⟩:=d.2 Z;have c:k<K.length:=by have:=d.1;omega
 exact⟨b,K[k],h,cu c,f k _ (cu c)⟩
theorem aF.plain(i:aF a J W g K)(k:0<g)(m:0<W):∃c e,J=some ⟨c,e,none⟩/\∀d b,K[d]? =some b->a.cell? ⟨c,e+d,none⟩=some b:=by
 obtain⟨⟨c,e,j⟩,rfl,h⟩:=i.2 k;have l:0<K.length:=by rw[i.1];exact qs k m
 have f:=h 0 _ (cu l);have o:j=none:=by
  cases j with
  |none=>rfl
  |some p=>simp only[Addr.add,eB,World.cell?]at f;split at f<;>simp at f
 subst o;exact⟨c,e,rfl,λd b n=>by have:=h d b n;rwa[ox]at this⟩
theorem aF.S(h:aF a J W g K)(k:V H a F)(ak:vO J g H):aF F J W g K:=⟨h.1,λd=>by obtain⟨c,i,b⟩:=h.2 d;exact⟨c,i,λe j f=>(k.au (f' a _ (b e j f)) (by rw[WM];exact ak d c i)).trans (b e j f)⟩⟩
theorem aF.drew(b:aF a J W g K):aF a.drew J W g K:=b
theorem aF.ad(b:aF a J W g K)(c:V [] a F):aF F J W g K:=b.S c (λ_ _ _=>U)
theorem aF.alloc(c:aF a J W g K)(b:Obj):aF (a.alloc b) J W g K:=c.ad ((V.refl _ _).alloc b)
theorem aF.one(b:N)(c:Qas)(e:Qat):aF (b.alloc (.cells #[c] e)) (some ⟨b.heap.size,0,none⟩) 1 1 [c]:=⟨rfl,λ_=>⟨_,rfl,λd f a=>by
 match d,a with
 |0,a=>simp at a;subst a;simp[Addr.add]⟩⟩
theorem aF.nG{i:Nat}{e:Nat}(b:a.ownsRow i E W (.slice J g e) g K):aF a J W g K:=by
 refine⟨b.1,λd=>?_⟩;obtain⟨c,bH,h,_⟩:=DJ b d;have f:J=some ⟨c,0,none⟩:=by injection h
 subst f;exact⟨_,rfl,b.cells (g:=c) rfl⟩
theorem aF.cut(c:aF a J W g K){b bH:Nat}(l:b<=g)(i:g<=bH):aF a (if bH=b then J else J.map (·.add (b*W))) W (g-b) (K.drop (b*W)):=by refine⟨by rw[oB,c.1,Nat.sub_mul],λj=>?_⟩;obtain⟨d,rfl,e⟩:=c.2 Z;rw[M Z];refine⟨d.add (b*W),rfl,λk h f=>?_⟩;rw[WL];exact e _ h (by rw[<-f,pf])
theorem aF.front(d:aF a J W g K){c:Nat}(k:c<=g):aF a J W c (K.take (c*W)):=by
 refine⟨by rw[kb,d.1];exact DK (ix _ k),λl=>?_⟩;obtain⟨e,i,f⟩:=d.2 Z;refine⟨e,i,λh j b=>f h j ?_⟩;rw[pg]at b;split at b
 .exact b
 .cases b
theorem aF.lt(e:aF a J W g K)(f:0<W)(d:0<g):∀c,J=some c->c.block<a.heap.size:=by
 intro c j;obtain⟨k,l,b,h⟩:=e.plain d f;have i:0<K.length:=by rw[e.1];exact qs d f
 have:=f' a _ (h 0 _ (cu i));rw[j]at b;injection b with b;rw[b];exact this
end
section
variable {d:Qav}(a:N)
theorem WN(o:Nat)(b h c:Qat)(m:TypeInfo)(g:Nat)(f:d.underlying b=some (.slice c))(e:d.info? c=some m) (v:Qas) (l:Nat) (i:Qam) (n:a.ownsRow o c g v l i) (j:Nat):(Builtin.append_ #[b,b] h #[v,.slice none 0 j]).run d a=.ok v a:=by
 rcases n.2 with⟨rfl,rfl⟩|⟨p,bH,q,rfl,_,_,k,_⟩
 .simp[Builtin.append_,h7 f,sizeOf,typeInfo,e,Builtin.lenOf,Builtin.firstCells]
 .simp[Builtin.append_,h7 f,sizeOf,typeInfo,e,Builtin.lenOf,Builtin.firstCells,k,storeCells]
theorem yN(y B m:Qat)(r:TypeInfo)(F:Qas)(h bytes:Nat)(L:d.underlying y=some (.slice m))(J:d.info? m=some r)(zd:r.zero=some F) (zh:r.size=h) (zj:r.bytes=bytes) (za:F.cells.size=h) (zc:0<h) (l:Qae) (b i:Nat) (u:Qam) (D:a.ownsRow 0 m h (.slice l b i) b u) (C:Qae) (c G:Nat) (k:Qam) (z:aF a C h c k) (P:∀s∈k,s.oneCell'=true) (ze:b+c<=maxLen) (Q:(b+c)*bytes<=140737488355328):∃e f g,(Builtin.append_ #[y,y] B #[.slice l b i,.slice C c G]).run d a=.ok (.slice e (b+c) f) g/\g.ownsRow 0 m h (.slice e (b+c) f) (b+c) (u++k)/\V (dL (.slice l b i)) a g/\b3 a (dL (.slice l b i)) (dL (.slice e (b+c) f))/\(0<b+c->∃x,e=some ⟨x,0,none⟩):=by
 have step:∀o g,g.ownsRow 0 m h o (b+c) (u++k)->a.grownBy g (Value.slice l b i).ownBlock->(o.ownBlock=(Value.slice l b i).ownBlock\/o.ownBlock=some a.heap.size)->∃e f,o=.slice e (b+c) f/\g.ownsRow 0 m h (.slice e (b+c) f) (b+c) (u++k)/\V (dL (.slice l b i)) a g/\b3 a (dL (.slice l b i)) (dL (.slice e (b+c) f))/\(0<b+c->∃x,e=some ⟨x,0,none⟩):=by
  intro o g w I n;obtain⟨e,f,rfl⟩:=WK w;refine⟨e,f,rfl,w,(V.refl _ _).grown I (λW t=>.inl (by simp[dL,t])),λW t=>?_,λzb=>?_⟩
  .rcases n with n|n
   .left;unfold dL at t⊢;rwa[<-n]
   .right;unfold dL at t;rw[n]at t;simp at t;omega
  .obtain⟨x,zm,p,_⟩:=DJ w zb;injection p with p;exact⟨x,p⟩
 rcases C with _|H
 .have zf:c=0:=by
   rcases mV c with q|q
   .exact q
   .obtain⟨H,j,_⟩:=z.2 q;cases j
  subst zf;have E:k=[]:=mb (by simpa using z.1);subst E;obtain⟨e,f,p,j⟩:=step (.slice l b i) a (by simpa using D) (World.grownBy.refl a _) (.inl rfl);exact⟨e,f,a,by rw[WN a 0 y B m r h L J _ b u D G,p],j⟩
 .have zi:∀A s,k[A]? =some s->a.cell? (H.add A)=some s:=by
   intro A s K;rcases mV c with q|q
   .subst q;have E:k=[]:=mb (by simpa using z.1);subst E;simp at K
   .obtain⟨zl,j,O⟩:=z.2 q;injection j with j;subst j;exact O A s K
  obtain⟨o,g,zk,w,I,_,n⟩:=run_append_own_at (P:=d) a 0 y B m r F h bytes L J zd zh zj za zc _ b u D H c G k z.1 zi P ze Q (jo _);obtain⟨e,f,p,j⟩:=step o g w I n;exact⟨e,f,g,by rw[zk,p],j⟩
theorem WO{o:Qax}{m:Act}{t:Qab}{y:Qaa}(x u:Qau)(p:Qat) (O:o.op=.call {callee:=.builtin .append,args:=#[x,u],argTypes:=#[p,p]}) (j:Qat) (g:TypeInfo) (r:Qas) (e bytes:Nat) (zb:d.underlying p=some (.slice j)) (H:d.info? j=some g) (L:g.zero=some r) (W:g.size=e) (za:g.bytes=bytes) (I:r.cells.size=e) (J:0<e) (k:Qae) (b f:Nat) (s:Qam) (G:m.eval x=.slice k b f) (C:a.ownsRow 0 j e (.slice k b f) b s) (q:Qae) (c w:Nat) (n:Qam) (K:m.eval u=.slice q c w) (zc:aF a q e c n) (A:∀D∈n,D.oneCell'=true) (P:b+c<=maxLen) (B:(b+c)*bytes<=140737488355328) (z:∀h i l,l.ownsRow 0 j e (.slice h (b+c) i) (b+c) (s++n)->V (dL (.slice k b f)) a l->b3 a (dL (.slice k b f)) (dL (.slice h (b+c) i))->t (m.put o.dst (.slice h (b+c) i)) l):o.wp d m a t y:=by obtain⟨h,i,l,zd,F,Q,E,_⟩:=yN (d:=d) a p o.type j g r e bytes zb H L W za I J k b f s C q c w n zc A P B;unfold Oper.wp execOp;simp only[O,resolve,invoke,builtin,eS,iW,gl,gm,cj,ee,G,K,zd];exact z h i l F Q E
theorem JI{x:Qak}{z:Qal}{o:Qax}{m:Act}{w:Qaa}(E:o.guard=none)(t r:Qau)(p:Qat) (W:o.op=.call {callee:=.builtin .append,args:=#[t,r],argTypes:=#[p,p]}) (j:Qat) (g:TypeInfo) (s:Qas) (e bytes:Nat) (ze:d.underlying p=some (.slice j)) (J:d.info? j=some g) (Q:g.zero=some s) (zc:g.size=e) (zd:g.bytes=bytes) (K:s.cells.size=e) (O:0<e) (k:Qae) (b f:Nat) (u:Qam) (I:m.eval t=.slice k b f) (D:a.ownsRow 0 j e (.slice k b f) b u) (q:Qae) (c y:Nat) (n:Qam) (P:m.eval r=.slice q c y) (zf:aF a q e c n) (B:∀F∈n,F.oneCell'=true) (za:b+c<=maxLen) (C:(b+c)*bytes<=140737488355328) (A:∀h i l,l.ownsRow 0 j e (.slice h (b+c) i) (b+c) (u++n)->V (dL (.slice k b f)) a l->b3 a (dL (.slice k b f)) (dL (.slice h (b+c) i))->wpList d x w z (m.put o.dst (.slice h (b+c) i)) l):wpList d x w (o::z) m a:=jq E λ_ L=>WO a t r p W j g s e bytes ze J Q zc zd K O k b f u I D q c y n P zf B za C λh i l H zb G=>L _ _ (A h i l H zb G)
theorem vP{u:Qak}{y:Qal}{i:Qax}{m:Act}{t:Qaa}(E:i.guard=none)(z w:Qau)(p:Qat) (zb:i.op=.call {callee:=.builtin .append,args:=#[z,w],argTypes:=#[p,p]}) (j:Qat) (h:TypeInfo) (r:Qas) (e bytes:Nat) (zh:d.underlying p=some (.slice j)) (L:d.info? j=some h) (za:h.zero=some r) (ze:h.size=e) (zf:h.bytes=bytes) (O:r.cells.size=e) (Q:0<e) (k:Qae) (b g:Nat) (s:Qam) (J:m.eval z=.slice k b g) (D:a.ownsRow 0 j e (.slice k b g) b s) (q:Qae) (c x:Nat) (n:Qam) (W:m.eval w=.slice q c x) (zi:aF a q e c n) (B:∀F∈n,F.oneCell'=true) (zc:b+c<=maxLen) (C:(b+c)*bytes<=140737488355328) (K:0<b+c) (A:∀f o l,l.ownsRow 0 j e (.slice (ab f) (b+c) o) (b+c) (s++n)->V (dL (.slice k b g)) a l->(f∈dL (.slice k b g)\/a.heap.size<=f)->wpList d u t y (m.put i.dst (.slice (ab f) (b+c) o)) l):wpList d u t (i::y) m a:=by refine jq E λzl P=>?_;obtain⟨zk,o,l,zj,H,zd,G,I⟩:=yN (d:=d) a p i.type j h r e bytes zh L za ze zf O Q k b g s D q c x n zi B zc C;obtain⟨f,rfl⟩:=I K;unfold Oper.wp execOp;simp only[zb,resolve,invoke,builtin,eS,iW,gl,gm,cj,ee,J,W,zj];exact P _ _ (A f o l H zd (G f ta))
theorem tb(a:Qas)(c:a.cells=#[a])(b:Nat):madeCells a.cells (b*1)=(List.replicate b a).toArray:=by
 rw[c];apply Array.ext
 .simp[madeCells]
 .intro l h1 d;simp[madeCells,Nat.mod_one]
theorem qt{j:Qax} (A:j.guard=none) (t o:Qau) (n:Qat) (x:j.op=Op.makeSlice n t o) (k:Qat) (g:TypeInfo) (h:Qas) (y:d.underlying n=some (.slice k)) (D:d.info? k=some g) (J:g.zero=some h) (C:g.size=1) (H:h.cells=#[h]) (r p:Qaw) (s aM:Int) (e:Nat) (B:b.eval t=.int r s) (w:b.eval o=.int p aM) (G:s=(e:Int)) (I:aM=(e:Int)) (L:g.bytes*e<=281474976710656) (i:e<=maxLen) (F:∀l,ag l a.heap.size k (List.replicate e h).toArray->V [] a l->l.heap.size=a.heap.size+1->wpList d c f m (b.put j.dst (.slice (some ⟨a.heap.size,0,none⟩) e e)) l):wpList d c f (j::m) b a:=by
 refine jq A λK E=>?_;subst G;subst I;have z:(g.bytes:Int)*(e:Int)<=281474976710656:=by exact DL
 have u:=run_make (P:=d) a n k g h y D J r p (e:Int) (e:Int) Z Z z yO;rw[C,gx,tb h H]at u;unfold Oper.wp;simp only[execOp,x,B,w,u,Result.andThen,eS,iW];exact E _ _ (F _ (ag.aP _ _ _) ((V.refl _ _).alloc _) U)
theorem rF{A:Qak}{E:Qal}{i:Qax}{k:Act}{y:Qaa}(P:i.guard=none)(z G:Qau)(j q:Qat) (F:i.op=.call {callee:=.builtin .copy,args:=#[z,G],argTypes:=#[j,q]}) (elem:Qat) (H:d.underlying j=some (.slice elem)) (D:(d.info? elem).map (·.size)=some 1) (f h b s:Nat) (t:Qae) (c r:Nat) (ak:k.eval z=.slice (some ⟨f,h,none⟩) b s) (B:k.eval G=.slice t c r) (g:Qam) (n:Qat) (p:ag a f n g.toArray) (e:Qam) (I:aF a t 1 c e) (zi:h+b<=g.length) (K:∀v∈e,v.oneCell'=true) (o:∀w,ag w f n (splice g h (e.take b)).toArray->V [f] a w->wpList d A y E (k.put i.dst (goInt (Nat.min c b))) w):wpList d A y (i::E) k a:=by
 have zd:e.length=c:=by have:=I.1;omega
 have l:(e.take b).length=Nat.min c b:=by rw[kb,zd];exact Nat.min_comm _ _
 refine jq P λze C=>?_;rcases mV (Nat.min c b)with u|u
 .have x:=run_copy_none (P:=d) a j q i.type elem (some ⟨f,h,none⟩) t b s c r H D u;have za:e.take b=[]:=mb Z;unfold Oper.wp;simp only[execOp,F,resolve,invoke,builtin,ak,B,x,Result.andThen,eS,iW,gm,cj,ee];refine C _ _ ?_;rw[u]at o;exact o a (by rw[za];simpa[splice]using p) (V.refl _ _)
 .obtain⟨zb,rfl,J⟩:=I.2 (by have:Nat.min c b<=c:=Nat.min_le_left _ _;omega);have zh:(e.take b).length<=b:=aw;have x:=run_copy_row (P:=d) a j q i.type elem f h b s zb c r g.toArray n (e.take b) H D p l (λzc v m=>J zc v (by rw[pg]at m;split at m;exact m;cases m)) (by simp only[mW];omega) (λv Q=>K v (tc Q));unfold Oper.wp;simp only[execOp,F,resolve,invoke,builtin,ak,B,x,Result.andThen,eS,iW,gm,cj,ee];refine C _ _ ?_;rw[l];refine o _ ?_ ⟨rfl,rfl,rfl,by simp[World.setRow],λO zf W=>setRow_other a f O _ (λL=>W (by simp[L]))⟩;have:=setRow_heap a f g.toArray (g.take h++e.take b++g.drop (h+Nat.min c b)).toArray n (0,0) p;unfold ag splice;rw[l];simpa[l]using this
end
def gE(b:Qaw)(c:Nat)(a:aj):Qam:=(List.range c).map λd=>Value.int b (a d)
def an(b:Qaw)(c:Nat)(a:aj):Qad:=(gE b c a).toArray
def c3(c:Nat)(b:aj):aj:=λa=>if a<c then b a else 0
def aV(b:aj)(c:Nat)(v:Int):aj:=λa=>if a=c then v else b a
section
variable {k:Qaw}{g:Nat}{h L:aj}
theorem gO:(an k g h).size=g:=yP
theorem dw(a:D<g):(an k g h)[D]? =some (.int k (h D)):=by simp[an,gE,a]
theorem jr(b:∀a,a<g->h a=L a):an k g h=an k g L:=by unfold an gE;congr 1;apply oC;intro a c;rw[b a vQ]
theorem oD(v:Int)(d:D<g):(an k g h).setIfInBounds D (.int k v)=an k g (aV h D v):=by
 apply kc;intro c;rw[qu];by_cases a:D=c
 .subst a;simp[d,an,gE,aV]
 .rw[M a];by_cases b:c<g
  .rw[dw b,dw b];simp[aV,hv a]
  .rw[hP td,hP td]
theorem ph{v:Int}(c:P<g)(d:h P=v):(an k g (c3 P h)).setIfInBounds P (.int k v)=an k g (c3 (P+1) h):=by
 rw[oD v c];apply jr;intro a _;unfold aV c3;by_cases b:a=P
 .subst b;simp[d]
 .exact JJ
theorem rG:an k g (c3 0 h)=an k g (λ_=>0):=jr (λa _=>by simp[c3])
theorem oE(c:g<=P):an k g (c3 P h)=an k g h:=jr (λb a=>by unfold c3;rw[ae Z])
theorem e6:(an k g h).all (·.oneCell')=true:=by rw[kw];intro v a;simp[an,gE]at a;obtain⟨b,_,rfl⟩:=a;rfl
theorem iy:(gE k g h).length=g:=by simp[gE]
end
theorem V.setRow{e d:N}(a:V H e d){b:Nat}(c:b∈H\/e.heap.size<=b)(g:Qad):V H e (d.setRow b g):=⟨a.os,a.tape,a.output,by simpa using a.size,λh i f=>(setRow_other d b h g (by
 rintro rfl;rcases c with c|c
 .exact f c
 .omega)).trans (a.block h i f)⟩
theorem ag.row{b:N}{a:Nat}(d:ag b a p i)(c:Qad):ag (b.setRow a c) a p c:=setRow_heap b a i c p (0,0) d
def h8(c:Nat)(b d:aj):Bool:=(List.range c).all λa=>b a==d a
theorem te{b:aj}:h8 g b L=true↔∀a,a<g->b a=L a:=by simp[h8]
theorem WQ{b:aj}(c:∀a,a<g->b a=L a):h8 g b L=true:=te.2 c
section
variable {d:Qav}
theorem DM(e:N)(j:Nat)(b:Qat)(a:Qaw)(c:Nat)(i h:aj)(k:d.underlying b=some (.int a))(l:d.cellsOf b=1):∀g:af,(∀D∈g,D<c)->(Op.eqItems (j+1) b (d.cellsOf b) (an a c i) (an a c h) g).run d e=.ok (g.all λD=>i D==h D) e
 |[],_=>by simp[Op.eqItems]
 |D::g,m=>by
  have q:D<c:=m D U;have n:∀f:aj,(part b (an a c f) (D*d.cellsOf b)).run d e=.ok (.int a (f D)) e:=by intro f;have:(an a c f)[D]? =some (.int a (f D)):=dw q;simp[part,isAgg,h7 k,l,this]
  have p:=DM e j b a c i h k l g (λo r=>m o (by simp[r]));simp only[Op.eqItems,eS,n,gl,run_equalIn_int e j b a a _ _ k,yQ];cases s:(i D==h D)
  .simp
  .simp only[Bool.not_true,oF,k2,yR];exact p
theorem DN(h c:Qat)(e:Qaw)(b:Nat)(l:TypeInfo)(f g:aj)(m:d.underlying h=some (.array b c))(j:d.underlying c=some (.int e))(k:d.info? c=some l)(i:d.cellsOf c=1):(binOp .eql h (an e b f) (an e b g)).run d a=.ok (.bool (h8 b f g)) a:=by rw[run_eql_struct,show(10000:Nat)=9998+1+1 from rfl,DO a 9999 _ _ m k,DM a 9998 c e b f g j i _ U];rfl
theorem yS(h g:Qat)(e:Qaw)(c:Nat)(f:aj)(l:d.underlying h=some (.array c g))(i:d.underlying g=some (.int e))(o:∀a,(sizeOf g).run d a=.ok 1 a)(j:Qaw)(b:Nat)(k:b<c):(Instr.index h (an e c f) (.int j (b:Int))).run d a=.ok (.int e (f b)) a:=by have m:(an e c f)[b]? =some (.int e (f b)):=dw k;have n:(0:Int)<=(b:Int)/\(b:Int)<(c:Int):=Z;simp only[Instr.index,asIntOf,eS,iW,gl,h7 l,ae n,o,part,isAgg,h7 i,gx,k3];simp[m]
end
section
variable {d:Qav}{c:Qak}{m:Qal}{e:Qax}{b:Act}{a:N}{f:Qaa}{z zb:Qau}{p:Qat}
theorem cw(g:Qas)(h:Qad)(r:e.guard=none)(u:e.op=.alloc p)(l:(d.info? p).map (·.zero)=some (some g))(x:g.cells=h) (q:∀i k,ag k i p h->V [] a k->a.heap.size<=i->wpList d c f m (b.put e.dst (ab i)) k):wpList d c f (e::m) b a:=by
 refine jq r λy s=>?_;cases j:d.info? p with
 |none=>simp[j]at l
 |some n=>
  have t:n.zero=some g:=by simpa[j]using l
  have o:=s _ _ (q a.heap.size (a.alloc (.cells h p)) (ag.aP _ _ _) ((V.refl _ _).alloc _) (a' _));subst x;have w:(zeroValue p).run d a=.ok g a:=by simp[zeroValue,typeInfo,j,t]
  unfold Oper.wp execOp;simp only[u,Instr.alloc,eS,w,gl,newVar,newRow];exact o
theorem cx(v:Qas)(g:Qad)(r:e.guard=none)(n:e.op=.box p z)(k:b.eval z=v)(o:v.cells=g) (j:∀h i,ag i h p g->V [] a i->a.heap.size<=h->wpList d c f m (b.put e.dst (ab h)) i):wpList d c f (e::m) b a:=by refine jq r λs l=>?_;exact JK
theorem vR{h:Nat}{T:Qat}(g:Qad)(k:ag a h T i)(o:e.guard=none)(u:e.op=.store p z zb)(t:b.eval z=ab h)(q:b.eval zb=g) (s:(d.info? p).map (·.size)=some g.size) (r:i.size=g.size) (l:g.all (·.oneCell')=true) (n:∀j,ag j h T g->V [h] a j->j.heap.size=a.heap.size->wpList d c f m (b.put e.dst undef) j):wpList d c f (e::m) b a:=DP o p z zb u h g t q T i k s r l (n _ (k.row _) ((V.refl _ _).setRow (.inl U) _) U)
end
theorem ag.hc{c:N}{a:Nat}(e:ag c a p i)(d:Nat)(b:Qas):ag (c.setCell ⟨a,d,none⟩ b) a p (i.setIfInBounds d b)/\V [a] c (c.setCell ⟨a,d,none⟩ b):=⟨e.ma d b,(V.refl _ _).setCell (.inl U) b⟩
theorem ag.apart{b:N}{a:Nat}(c:ag b a p i)(d:V [zr] b F)(e:a≠zr):ag F a p i:=c.S d (by simpa using e)
theorem V.own{a:N}{b:Nat}(c:V [] a O)(d:V [b] O zf)(g:a.heap.size<=b):V [] a zf:=c.trans d (λf e=>.inr (by simp at e;omega))
theorem V.same{a:N}(b:V H a O)(c:V H O zf):V H a zf:=b.trans c (b3.refl _ _)
namespace cr
open Go.RowKit
structure dU where
 r:World->World->Prop
 refl:∀a,r a a
 trans:∀{d e c},r d e->r e c->r d c
 up:∀{a b},V [] a b->r a b
 size:∀{a b},r a b->a.heap.size<=b.heap.size
variable {aM:dU}
def Nm(c:Qab):Qaa
 |.normal,b,a=>c b a
 |_,_,_=>False
abbrev k4:Qaa:=Nm λ_ _=>False
def nth:List Oper->Nat->Option Oper
 |[],_=>none
 |e::_,0=>some e
 |_::s,g+1=>nth s g
theorem DQ:∀(b:Qal)(a:Nat),nth b a=b[a]?
 |[],a=>by simp[nth]
 |e::b,0=>by simp[nth]
 |e::b,a+1=>by simp[nth,DQ b a]
def qv(b:Region.Mode)(c:Qak):Nat->Nat->Nat->Bool
 |0,_,_=>false
 |Q+1,D,l=>match c[D]? with
  |some e=>e.after.any λa=>Region.binds b a&&(a.on==l||qv b c Q a.on l)
  |none=>false
def Shut(e:Region.Mode)(f:Qak)(a:Qaq):Prop:=∀b d,f[b]? =some d->a.getD b false=true->∀c∈d.after,Region.binds e c=true->a.getD c.on false=true
def lq(c:Qaj)(a:Nat):Prop:=∀b∈c,a<b.1\/b.2<=a
section
variable {d:Qav}{c:Qak}{j:Region.Mode}
theorem JL{f:Qaq}(k:Shut j c f):∀(g b d:Nat),(∀m,c[b]? =some m->∀E∈m.after,Region.binds j E=true->f.getD E.on false=true)->qv j c g b d=true->f.getD d false=true
 |0,b,d,_,a=>by simp[qv]at a
 |g+1,b,d,n,a=>by
  unfold qv at a;cases i:c[b]? with
  |none=>simp[i]at a
  |some e=>
   simp only[i,Array.any_eq_true']at a;obtain⟨E,o,a⟩:=a;simp only[dB,k5,iz]at a;have l:=n e i E o a.1;rcases a.2 with h|h
   .rw[<-h];exact l
   .exact JL k g E.on d (λok p=>k _ ok p l) h
theorem WR{b:Nat}(d:Shut j c q)(f:D∈Region.ready j c q)(g:qv j c b D l=true):q.getD l false=true:=by obtain⟨_,k,h,e⟩:=mem_ready.1 f;exact JL d b D l (λi a=>by rw[h]at a;cases a;exact e) g
theorem Shut.set(k:Shut j c q)(n:l∈Region.ready j c q):Shut j c (q.setIfInBounds l true):=by
 intro e h a d g b i;obtain⟨_,o,p,m⟩:=mem_ready.1 n;by_cases f:l=e
 .subst f;obtain rfl:h=o:=mc (a.symm.trans p);exact getD_set_true (m g b i)
 .rw[rH false f]at d;exact getD_set_true (k e h a d g b i)
theorem JM{e:Qax}{c:N}{h:Qab}(a:e.wp d b c zh (Nm h)):e.wp d b c zh f:=by
 have j:¬LetsOut (Nm h):=λ⟨_,_,a⟩=>a;unfold Oper.wp at*;generalize (execOp b.eval e).run d c=l at*;cases l with
 |ok i n=>
  cases i<;>simp only[Oper.upon]at a⊢<;>try exact a
  case enter r zc=>
   refine Calls.mono a λk p g=>?_;cases k with
   |returned q=>exact g
   |panicked o=>exact(g:False).elim
   |outgrown=>exact(j g).elim
 |halt m n=>cases m<;>simp only[Oper.upon]at a⊢<;>exact(a:False).elim
theorem DR{h:N}(a:wpOp d c k4 l zh b h):wpOp d c f l zh b h:=by
 unfold wpOp at*;split
 .rename_i g;simp only[g]at a;exact a
 .rename_i e g;simp only[g]at a;split
  .rename_i hw;simp only[hw,eB]at a;rcases a with a|⟨_,j⟩
   .exact .inl (JM a)
   .exact absurd j (by rintro⟨_,_,i⟩;exact i)
  .rename_i hw;simp only[hw]at a;exact a
theorem WS(w:c[D]? =some zk)(p:C∉zk.looksAt c)(t:zk.dst≠some C)(x:∀s i,zk.op≠.select s i){l:Qab}{b:Act}{j:N} (a:wpOp d c k4 D l b j):wpOp d c k4 D (λz k=>∃i,z=i.put (some C) I/\l i k) (b.put (some C) I) j:=by
 have n:∀e,some C=some e->e∉zk.looksAt c:=λe g=>by cases g;exact p
 have f:∀e,some C=some e->zk.dst≠some e:=λe g=>by cases g;exact t
 unfold wpOp at*;simp only[w]at*;rw[wanted_put zk b (some C) I n];split
 .rename_i hw;simp only[hw,eB]at a;rcases a with a|⟨_,r⟩
  case inr=>exact absurd r (by rintro⟨_,_,y⟩;exact y)
  refine .inl ?_;unfold Oper.wp at*;rw[vS zk x b (some C) I n];generalize (execOp b.eval zk).run d j=u at*;cases u with
  |ok o k=>
   cases o<;>simp only[Oper.upon]at a⊢
   case value v=>exact⟨_,oG b I v f,a⟩
   case skip=>exact⟨_,oG b I undef f,a⟩
   case defer m=>exact⟨_,by rw[Act.put_defers,oG _ I undef f],a⟩
   case enter B zc=>
    refine Calls.mono a λg q h=>?_;cases g with
    |returned v=>exact⟨_,oG b I v f,h⟩
    |panicked A=>exact h
    |outgrown=>exact h
   case row row zc=>exact Rows.mono a λv q h=>⟨_,oG b I v f,h⟩
  |halt m k=>
   cases m<;>simp only[Oper.upon]at a⊢
   case panic v=>exact a
 .rename_i hw;simp only[hw]at a;exact⟨_,oG b I undef f,a⟩
def h9(aM:dU)(pure:Bool)(a:N):bU:=if pure then λ_=>True else aM.r a
theorem h9.self(b:Bool)(a:N):h9 aM b a a:=by unfold h9;split;trivial;exact aM.refl _
theorem JN{h:Qax}{a:Bool}{e:N}(f:a=true\/aM.r e O)(l:YieldsIf d c (h9 aM a e) h v b):YieldsIf d c (h9 aM a O) h v b:=l.imp (λ⟨k,m⟩=>⟨k,λi g=>m i (by
 unfold h9 at*;split
 .trivial
 .rename_i j;simp only[j]at g f;exact aM.trans (show aM.r e O from f.resolve_left U) (show aM.r O _ from g))⟩) id
def rI(aM:dU)(h:Qav)(d:Region.Mode)(c:Qak)(g:af)(e:Qab):Nat->Array Bool->Act->World->Prop
 |0,q,b,a=>Region.ready d c q=[]/\e b a
 |Q+1,q,b,a=>(Region.ready d c q=[]->e b a)/\∀f∈Region.ready d c q,wpOp h c k4 f (λj i=>(f∉g->aM.r a i)/\rI aM h d c g e Q (q.setIfInBounds f true) j i) b a
variable {ze:af}{f:Qab}
theorem WT{a:N}(g:Region.ready j c q=[])(e:f b a):∀h,rI aM d j c ze f h q b a
 |0=>⟨g,e⟩
 |_+1=>⟨λ_=>e,by rw[g];simp⟩
theorem JO{h:Qaa}:∀(f:Nat)(g:Qaq)(b:Act)(a:N),rI aM d j c ze (λb a=>h .normal b a) f g b a->wpAny d j c h f g b a
 |0,_,_,_,e=>e
 |f+1,_,_,_,e=>⟨e.1,λl i=>nH (λk n m=>JO f _ k n m.2) (DR (e.2 l i))⟩
theorem WU{H:Bool}(u:c[l]? =some za)(K:Region.noSelect c=true):∀(G:Nat)(b:Qaq)(x:Act)(t:N),Shut j c b->(∀a g,c[a]? =some g->a≠l->b.getD a true=false->(∀h∈g.after,Region.binds j h=true->h.on≠l)->za.apart c g=true)->(H=true\/∀A∈ze,b.getD A true=true\/A=l\/qv j c c.size A l=true)->l∈Region.ready j c b->YieldsIf d c (h9 aM H t) za v x->rI aM d j c ze f G (b.setIfInBounds l true) (x.put za.dst v) t->rI aM d j c ze f (G+1) b x t:=by
 intro G;induction G with
 |zero=>
  intro b x t _ _ _ n p o;refine⟨λw=>tf,λa q=>?_⟩;by_cases e:a=l
  .subst e;exact p.wpOp u (h9.self _ _) ⟨λ_=>aM.refl _,o⟩
  .exact DS
 |succ G zh=>
  intro b x t L J zc n p o;have y:=(mem_ready.1 n).1;refine⟨λw=>tf,λa q=>?_⟩;by_cases e:a=l
  .subst e;exact p.wpOp u (h9.self _ _) ⟨λ_=>aM.refl _,o⟩
  .refine DT λr s g z D E B=>?_;have zn:H=true\/a∉ze:=by
    rcases zc with zk|F
    .exact .inl zk
    .refine .inr λI=>?_;rcases F a I with m|m|m
     .rw[s]at m;cases m
     .exact e m
     .have:=WR L q m;rw[getD_both y]at this;cases this
   refine DU λC=>?_;have zd:H=true\/∀A∈ze,(b.setIfInBounds a true).getD A true=true\/A=l\/qv j c c.size A l=true:=zc.imp id λF A I=>by
    rcases F A I with m|m
    .left;by_cases zb:a=A
     .subst zb;rw[s]at m;cases m
     .rw[rH true zb];exact m
    .exact .inr m
   refine nH (λzo zp m=>⟨m.2.1,zh (b.setIfInBounds a true) zo zp (L.set q) C zd (qw n (hv e)) (JN (zn.imp id m.2.1) m.1) ?_⟩) B;rw[tg _ _ e];exact m.2.2
def pj(a:Qax):Option (TypeId×Tmp):=match a.guard,a.op,a.dst with
 |none,.alloc b,some c=>some (b,c)
 |_,_,_=>none
theorem yT{b:Qax}(a:pj b=some (p,C)):b.guard=none/\b.op=.alloc p/\b.dst=some C:=by
 unfold pj at a;split at a
 .rename_i h1 d c;simp only[iA,th]at a;obtain⟨rfl,rfl⟩:=a;exact⟨h1,d,c⟩
 .cases a
def JP(aM:dU)(c:Nat)(a b:N):Prop:=if c=0 then b=a else aM.r a b
def ba(aM:dU)(d:Qav)(h:Qak)(i:Qab):Nat->List (Oper×Nat)->List (Nat×Nat)->Act->World->Prop
 |_,[],_,b,a=>i b a
 |g,(e,k)::o,B,b,a=>
  if k=0\/k=3 then∃v,YieldsIf d h (h9 aM (k==3) a) e v b/\ba aM d h i g o B (b.put e.dst v) a
  else if k=4 then∀j n m c f,pj e=some (j,n)->(d.info? j).bind (·.zero)=some m->aM.r a c->ag c f j m.cells->lq B f->ba aM d h i (g-1) o ((f,f+1)::B) (b.put (some n) (ab f)) c
  else∀c,JP aM g a c->wpList d h (Nm λp l=>(k=1->aM.r c l)/\ba aM d h i g o ((c.heap.size,l.heap.size)::B) p l) [e] b c
def eT(a:Qaq):List Nat->Array Bool
 |[]=>a
 |b::p=>eT (a.setIfInBounds b true) p
def DV(a:Qak)(d:af)(e:Nat):Bool:=match a[e]? with
 |some b=>d.all λf=>match a[f]?.bind (·.dst)with
  |some c=> !(b.looksAt a).contains c&&b.dst !=some c
  |none=>false
 |none=>false
def oH(c:Region.Mode)(b:Qak)(d:af):List Nat->List Nat->Array Bool->Bool
 |a,[],q=>a.isEmpty&&(Region.ready c b q).isEmpty
 |a,k::o,q=>
  if k/100=0\/k/100=3 then !a.contains (k%100)&&((Region.ready c b q).contains (k%100)&&(Region.free c b q (k%100)&&((k/100==3||d.all λe=>q.getD e true||(e==k%100||qv c b b.size e (k%100)))&&(DV b a (k%100)&&oH c b d a o (q.setIfInBounds (k%100) true)))))
  else if k/100=4 then a.contains (k%100)&&(Region.ready c b (eT q (a.erase (k%100)))==[k%100]&&oH c b d (a.erase (k%100)) o (q.setIfInBounds (k%100) true))
  else !a.contains (k%100)&&(Region.ready c b (eT q a)==[k%100]&&((k/100==1||(d.contains (k%100)&&a.isEmpty))&&(DV b a (k%100)&&oH c b d a o (q.setIfInBounds (k%100) true))))
def ga(a:Qal):List Nat->List (Oper×Nat)
 |[]=>[]
 |k::o=>match nth a (k%100)with
  |some e=>(e,k/100)::ga a o
  |none=>ga a o
theorem qx:∀(f:af)(b:Qaq)(a:Nat),(eT b f).getD a true=(b.getD a true||f.contains a)
 |[],b,a=>by simp[eT]
 |c::p,b,a=>by
  unfold eT;rw[qx p];by_cases d:c=a
  .subst d;have:(b.setIfInBounds c true).getD c true=true:=by
    rcases jn c b.size with e|e
    .simp[e]
    .simp[e]
   rw[this];simp
  .rw[rH true d];have:a≠c:=λg=>d g.symm;simp[this]
theorem yU:∀(f:af)(b:Qaq)(a:Nat),(eT b f).getD a false=(b.getD a false||(f.contains a&&decide (a<b.size)))
 |[],b,a=>by simp[eT]
 |d::p,b,a=>by
  unfold eT;rw[yU p];by_cases c:d=a
  .subst c;rcases jn d b.size with e|e
   .simp[e]
   .simp[Nat.not_lt.2 e]
  .rw[rH false c];have:a≠d:=λg=>c g.symm;simp[this]
theorem vT:∀(d:af)(b:Qaq)(a:Nat),(eT b d).setIfInBounds a true=eT (b.setIfInBounds a true) d
 |[],_,_=>rfl
 |e::p,b,a=>by
  unfold eT;rw[vT p];by_cases c:e=a
  .subst c;rfl
  .rw[tg _ _ c]
theorem DW{d e:af}(h:d.Perm e):∀a,eT a d=eT a e:=by
 induction h with
 |nil=>intro _;rfl
 |cons b _ g=>intro f;exact g _
 |swap b k l=>
  intro f;simp only[eT];by_cases c:b=k
  .subst c;rfl
  .rw[tg _ _ c]
 |trans _ _ j i=>intro f;rw[j,i]
theorem DX{e b:Qaq}{a:Nat}(h:a∈Region.ready j c e)(n:b.getD a true=false)(i:∀d,e.getD d false=true->b.getD d false=true):a∈Region.ready j c b:=by obtain⟨_,l,o,f⟩:=mem_ready.1 h;exact mem_ready.2 ⟨n,l,o,λk g m=>i _ (f k g m)⟩
def me:List (Nat×Tmp×Nat)->Act->Act
 |[],b=>b
 |E::p,b=>me p (b.put (some E.2.1) (.pointer (some ⟨E.2.2,0,none⟩)))
theorem DY:∀(c:List (Nat×Tmp×Nat))(b:Act)(a:Option Tmp)(v:Qas),(∀E∈c,a≠some E.2.1)->(me c b).put a v=me c (b.put a v)
 |[],_,_,_,_=>rfl
 |E::p,b,a,v,d=>by unfold me;rw[DY p _ a v (λE e=>d E (hQ _ e)),<-oG b _ _ (x:=some E.2.1) (y:=a) (λg f=>by cases f;exact d E hd)]
theorem WV{d f:List (Nat×Tmp×Nat)}(h:d.Perm f):(d.map (·.2.1)).Nodup->∀b,me d b=me f b:=by
 induction h with
 |nil=>intro _ _;rfl
 |cons e _ g=>intro a b;exact g (by simpa using(jJ.1 a).2) _
 |swap e k n=>
  intro a b;simp only[me];rw[oG b _ _ (x:=some k.2.1) (y:=some e.2.1) (λm ak c=>by
   cases ak;injection c with c
   simp only[cj,jJ,bu,kd]at a;exact a.1.1 c.symm)]
 |trans l _ i j=>intro a b;rw[i a,j ((l.map _).nodup_iff.1 a)]
theorem JQ{g:bU}{a:Qax}{v:Qas}(i:∀m k,a.op≠.select m k):∀(h:List (Nat×Tmp×Nat))(b:Act),(∀E∈h,E.2.1∉a.looksAt c)->YieldsIf d c g a v b->YieldsIf d c g a v (me h b)
 |[],_,_,f=>f
 |E::p,b,e,f=>JQ i p _ (λE j=>e E (hQ _ j)) (f.of_same (vS a i b _ _ (λl ak=>by cases ak;exact e E hd)) (wanted_put a b _ _ (λl ak=>by cases ak;exact e E hd)))
theorem JR{l:Nat}{e:Qax}(o:c[l]? =some e)(q:∀t a,e.op≠.select t a){n:N}:∀(k:List (Nat×Tmp×Nat))(g:Act)(i:Qab),(∀E∈k,E.2.1∉e.looksAt c/\e.dst≠some E.2.1)->wpOp d c k4 l i g n->wpOp d c k4 l (λb m=>∃a,b=me k a/\i a m) (me k g) n
 |[],_,_,_,h=>nH (λb m j=>⟨b,rfl,j⟩) h
 |E::p,g,i,f,h=>by have s:=WS (I:=.pointer (some ⟨E.2.2,0,none⟩)) o (f E hd).1 (f E hd).2 q h;refine nH ?_ (JR o q p _ _ (λE u=>f E (hQ _ u)) s);rintro b m ⟨a,rfl,r,rfl,j⟩;exact⟨r,rfl,j⟩
theorem JS{e:Qax}{a:N}(i:pj e=some (p,C))(c:(d.info? p).bind (·.zero)=some zn):(execOp zq e).run d a=.ok (.value (.pointer (some ⟨a.heap.size,0,none⟩))) (a.alloc (.cells zn.cells p)):=by
 obtain⟨_,f,_⟩:=yT i;cases b:d.info? p with
 |none=>simp[b]at c
 |some h=>
  have j:h.zero=some zn:=by simpa[b]using c
  have g:(zeroValue p).run d a=.ok zn a:=by simp[zeroValue,typeInfo,b,j]
  unfold execOp;simp only[f,Instr.alloc,eS,g,gl,newVar,newRow];rfl
structure vU(g:Qav)(h:Qak)(f:af)(b:Nat)(c:Qat)(e:Tmp)(d:Qas):Prop where
 op:∃a,h[b]? =some a/\pj a=some (c,e)/\a.after=#[]
 zero:(g.info? c).bind (·.zero)=some d
 aS:b∉f
def qy:List Nat->Nat
 |[]=>0
 |k::o=>(if k/100=4 then 0 else 1)+qy o
theorem JT(a:u:=by obtain⟨s,_,zu,zw,zO,_⟩:=O a p;obtain⟨zaQ,zG,z',_⟩:=zO.op;unfold DV at zH;simp only[y]at zH;have:=ke.1 zH _ s;simp only[zG,yV,(yT z').2.2,dB]at this;exact⟨by simpa using this.1,by simpa using this.2⟩):u:=a
theorem JU(a:u:=by obtain⟨s,z,L⟩:=k g n;exact⟨s,z,by rw[rH true (λa:o%100=g=>x (by rw[a];exact n))];exact L⟩):u:=a
theorem JV(a:u:=by exact zS A (by simp only[qy];first|(rw[ae zi];omega)|(rw[M zi];omega)) h (zaO h G B) B):u:=a
theorem WW{zC:af}(zaH:(∀Q J,aM.r Q J->V [] Q J)\/zC=[])(z8:Region.noSelect c=true)(zar:∀e∈zC,∃D zb F,vU d c ze e D zb F) (zaD:∀e∈zC,∀zaq∈zC,∀D zu zb F zw,vU d c ze e D zb F->vU d c ze zaq zu zb zw->e=zaq) {zt:Qal} (zk:zt.toArray=c):∀(zP I:Nat)(P l u:af)(b:List (Nat×Tmp×Nat))(r:Qaq)(za:Qaj)(K:Act)(Q w:N),P.length+u.length=zP->qy P+u.length<=I->oH j c ze l P r=true->Shut j c (eT r (b.map (·.1)))->(∀e∈l,e∈zC/\(e∈u\/e∈b.map (·.1))/\r.getD e true=false)->(∀e∈u,e∈l/\e∉b.map (·.1))->u.Nodup->l.Nodup->(∀a∈b,a.1∈l/\lq za a.2.2/\∃D F,vU d c ze a.1 D a.2.1 F/\ag w a.2.2 D F.cells)->(b.map (·.1)).Nodup->(b.map (·.2.1)).Nodup->(b.map (·.2.2)).Nodup->(l=[]\/∀E∈za,E.2<=w.heap.size)->aM.r Q w->(l=[]->w=Q)->ba aM d c f l.length (ga zt P) za K Q->rI aM d j c ze f I (eT r (b.map (·.1))) (me b K) w:=by
 intro zP;induction zP with
 |zero=>
  intro I P l u b r za K Q w zl W q zm k H zv zc O zD zr zA zj zs zI e;obtain rfl:P=[]:=mb Z;obtain rfl:u=[]:=mb Z;simp only[oH,dB,List.isEmpty_iff]at q;obtain⟨rfl,i⟩:=q;have zax:b=[]:=by
   cases b with
   |nil=>rfl
   |cons a D=>have:=(O a hd).1;cases this
  subst zax;rw[zI rfl];exact WT i e I
 |succ zP zJ=>
  intro I P l u b r za K Q w zl W q zm k H zv zc O zD zr zA zj zs zI e;have zS:∀A,qy P+u.length<=A+1->∀h∈u,h∈Region.ready j c (eT r (b.map (·.1)))->wpOp d c k4 h (λzM J=>(h∉ze->aM.r w J)/\rI aM d j c ze f A ((eT r (b.map (·.1))).setIfInBounds h true) zM J) (me b K) w:=by
   intro A zaR h B zaL;have G:=(H h B).1;have zan:=(H h B).2;obtain⟨D,zb,F,zh⟩:=zar h (k h G).1;obtain⟨zL,zd,zS,_⟩:=zh.op;obtain⟨zaE,_,ak⟩:=yT zS;have zak:∀E∈za,E.2<=w.heap.size:=zj.resolve_left λa=>by rw[a]at G;cases G
   have zap:∀a∈b,a.2.1≠zb:=λa p zQ=>by obtain⟨s,_,zu,zw,zO,_⟩:=O a p;rw[zQ]at zO;have:=zaD _ (k _ s).1 h (k h G).1 _ _ _ _ _ zO zh;exact zan (this▸ti p)
   unfold wpOp;simp only[zd];rw[ae (by simp[Region.wanted,zaE])];refine .inl ?_;unfold Oper.wp;rw[JS zS zh.zero];simp only[Oper.upon,ak];refine⟨λ_=>aM.up ((V.refl _ _).alloc _),?_⟩;have zag:=zJ A P l (u.erase h) ((h,zb,w.heap.size)::b) r za K Q (w.alloc (.cells F.cells D)) (by rw[DZ B];have:0<u.length:=D0 B;omega) (by rw[DZ B];have:0<u.length:=D0 B;omega) q;simp only[cj,eT,me]at zag;rw[vT,DY b K (some zb) _ (λa p zU=>zap a p (by injection zU with zU;exact zU.symm))];refine zag ?_ ?_ ?_ (zv.erase h) zc ?_ (jJ.2 ⟨zan,zD⟩) (jJ.2 ⟨λt=>?_,zr⟩) (jJ.2 ⟨λt=>?_,zA⟩) (.inr λE k=>b7 (zak E k) U) (aM.trans zs (aM.up ((V.refl _ _).alloc _))) (λa=>by rw[a]at G;cases G) e
   .have:=zm.set zaL;rwa[vT]at this
   .intro g n;obtain⟨s,z,L⟩:=k g n;refine⟨s,?_,L⟩;by_cases zae:g=h
    .subst zae;exact .inr hd
    .rcases z with z|z
     .exact .inl ((List.mem_erase_of_ne zae).2 z)
     .exact .inr (hQ _ z)
   .intro g n;have zah:=yW n;refine⟨(H g zah).1,λt=>?_⟩;rcases bu.1 t with rfl|t
    .exact(zv.mem_erase_iff.1 n).1 rfl
    .exact(H g zah).2 t
   .intro a p;rcases bu.1 p with rfl|p
    .exact⟨G,λE k=>.inr (zak E k),D,F,zh,ag.aP _ _ _⟩
    .obtain⟨s,z,zu,zw,L,zy⟩:=O a p;exact⟨s,z,zu,zw,L,zy.alloc _⟩
   .obtain⟨a,p,zQ⟩:=ca.1 t;exact zap a p zQ
   .obtain⟨a,p,zQ⟩:=ca.1 t;obtain⟨_,_,zu,zw,_,zy⟩:=O a p;have:=zy.lt;omega
  have z1:∀g∈b.map (·.1),g∈l:=λg n=>by obtain⟨a,p,rfl⟩:=ca.1 n;exact(O a p).1
  have zaB:∀zf:af,(∀g∈b.map (·.1),g∈zf)->∀m,(eT r (b.map (·.1))).getD m false=true->(eT r zf).getD m false=true:=λzf x m C=>by rw[yU]at C⊢;simp only[k5,dB,yX]at C⊢;exact C.imp id λe=>⟨x m e.1,e.2⟩
  have zaz:∀m,r.getD m false=true->(eT r (b.map (·.1))).getD m false=true:=λm C=>by rw[yU,C];rfl
  have zaj:∀m,m∉l->r.getD m true=false->(eT r (b.map (·.1))).getD m true=false:=λm C zk=>by rw[qx,zk,tj,yY];exact λt=>C (z1 m (yX.1 t))
  have zab:∀(zf:af)(m:Nat),m∉zf->(∀g∈b.map (·.1),g∈zf)->m∈Region.ready j c (eT r (b.map (·.1)))->m∈Region.ready j c (eT r zf):=λzf m C x i=>by refine DX i ?_ (zaB zf x);have:=(mem_ready.1 i).1;rw[qx]at this⊢;simp only[tk]at this;rw[this.1];simpa using C
  have zaO:∀m∈l,m∈Region.ready j c (eT r (b.map (·.1)))->m∈u:=λm C i=>by refine(k m C).2.1.resolve_right λt=>?_;have:=(mem_ready.1 i).1;rw[qx]at this;simp[t]at this
  have zao:∀h∈u,h∈Region.ready j c (eT r (b.map (·.1))):=λh B=>by obtain⟨D,zb,F,zh⟩:=zar h (k h (H h B).1).1;obtain⟨zL,zd,_,zau⟩:=zh.op;refine mem_ready.2 ⟨?_,zL,zd,by rw[zau];simp⟩;rw[qx,(k h (H h B).1).2.2,tj,yY];exact λt=>(H h B).2 (yX.1 t)
  match P,zl,W,q,e with
  |[],zl,_,q,_=>
   simp only[oH,dB,List.isEmpty_iff]at q;obtain⟨rfl,i⟩:=q;have:u=[]:=List.eq_nil_iff_forall_not_mem.2 λg n=>by have:=(H g n).1;cases this
   subst this;simp at zl
  |o::zK,zl,W,q,e=>
   unfold oH at q;simp only[qy]at W;by_cases zE:o/100=0\/o/100=3
   .rw[ae zE]at q;simp only[dB,k5,iz]at q;obtain⟨x,i,zaA,zo,zH,q⟩:=q;have x:o%100∉l:=by simpa using x
    have i:o%100∈Region.ready j c r:=rJ;obtain⟨zaC,zn,y,_⟩:=mem_ready.1 i;have zd:nth zt (o%100)=some zn:=D1;simp only[ga,zd,ba,ae zE]at e;obtain⟨v,zat,e⟩:=e;rw[M Z]at W;obtain⟨A,rfl⟩:∃A,I=A+1:=⟨I-1,Z⟩;have zam:o%100∈Region.ready j c (eT r (b.map (·.1))):=DX i (zaj _ x zaC) zaz;have zR:∀a∈b,a.2.1∉zn.looksAt c/\zn.dst≠some a.2.1:=λa p=>by exact JT
    refine WU (H:=o/100==3) y z8 A _ _ _ zm (λm zaJ C zav z7 zaF=>vV y zaA m zaJ C zav ?_ zaF) ?_ zam (JQ (λzW zx=>tl z8 _ _ zW zx y) b K (λa p=>(zR a p).1) (JN (.inr zs) zat)) ?_
    .rw[qx]at z7;simp only[tk]at z7;exact z7.1
    .rcases zo with zo|zo
     .exact .inl (by simpa using zo)
     .refine .inr λzx t=>?_;have:=ke.1 zo zx t;simp only[k5,iz]at this;exact this.imp (λe=>by rw[qx,e];rfl) id
    .have zz:=zm.set zam;rw[vT]at zz⊢;rw[DY b K _ _ λa p=>(zR a p).2];refine zJ A zK l u b _ za _ Q w (by simp at zl;omega) Z q zz (λg n=>?_) H zv zc O zD zr zA zj zs zI e;exact JU
   .rw[M zE]at q;by_cases zi:o/100=4
    .rw[ae zi]at q;simp only[dB,iz]at q;obtain⟨x,i,q⟩:=q;have x:o%100∈l:=by simpa using x
     by_cases t:o%100∈b.map (·.1)
     .obtain⟨a,p,zN⟩:=ca.1 t;obtain⟨_,zaN,D,F,zh,zaf⟩:=O a p;obtain⟨zL,zG,z',_⟩:=zh.op;rw[zN]at zG;have zd:nth zt (o%100)=some zL:=by rw[DQ];rw[<-zk]at zG;simpa using zG
      simp only[ga,zd,ba,M zE,ae zi]at e;have e:=e D a.2.1 F w a.2.2 z' zh.zero zs zaf zaN;have zp:=List.perm_cons_erase p;have zaM:∀g∈b.erase a,g∈b:=λg n=>yW n;have zT:=(zp.map (·.1)).nodup_iff.1 zD;have zad:=(zp.map (·.2.1)).nodup_iff.1 zr;have zY:=(zp.map (·.2.2)).nodup_iff.1 zA;simp only[cj,jJ]at zT zad zY;have zaI:eT r (b.map (·.1))=eT (r.setIfInBounds (o%100) true) ((b.erase a).map (·.1)):=by rw[DW (zp.map (·.1)),cj,zN];rfl
      rw[zaI]at zm⊢;rw[WV zp zr];have zaK:(l.erase (o%100)).length=l.length-1:=DZ x;rw[<-zaK]at e;rw[ae zi]at W;refine zJ I zK (l.erase (o%100)) u (b.erase a) _ _ _ w w (by simp at zl;omega) Z q zm (λg n=>?_) (λg n=>?_) zv (zc.erase _) (λg n=>?_) zT.2 zad.2 zY.2 ?_ (aM.refl _) (λ_=>rfl) e
      .have zac:=(zc.mem_erase_iff.1 n).1;obtain⟨s,z,L⟩:=k g (yW n);refine⟨s,z.imp id λt=>?_,by rw[rH true (hv zac)];exact L⟩;rw[(zp.map (·.1)).mem_iff,cj,zN]at t;exact(bu.1 t).resolve_left zac
      .obtain⟨s,z⟩:=H g n;refine⟨zc.mem_erase_iff.2 ⟨λa=>z (a▸t),s⟩,λzX=>z ?_⟩;rw[(zp.map (·.1)).mem_iff];exact hQ _ zX
      .obtain⟨s,z,L⟩:=O g (zaM g n);refine⟨zc.mem_erase_iff.2 ⟨λz6=>zT.1 (by rw[zN,<-z6];exact ti n),s⟩,λE k=>?_,L⟩;rcases bu.1 k with rfl|k
       .have:g.2.2≠a.2.2:=λz6=>zY.1 (z6▸ti n);simp only;omega
       .exact z E k
      .refine .inr λE k=>?_;rcases bu.1 k with rfl|k
       .exact zaf.lt
       .exact(zj.resolve_left λa=>by rw[a]at x;cases x) E k
     .have zai:o%100∈u:=(k _ x).2.1.resolve_right t;have zq:0<u.length:=D0 zai;rw[ae zi]at W;obtain⟨A,rfl⟩:∃A,I=A+1:=⟨I-1,Z⟩;refine⟨λzq=>?_,λh B=>?_⟩
      .have:=zao _ zai;rw[zq]at this;cases this
      .by_cases G:h∈l
       .exact JV
       .exfalso;have:=zab (l.erase (o%100)) h (λzX=>G (yW zX)) (λg n=>zc.mem_erase_iff.2 ⟨λa=>t (a▸n),z1 g n⟩) B;rw[i]at this;exact G (by rw[df.1 this];exact x)
    .rw[M zi]at q;simp only[dB,k5,iz]at q;obtain⟨x,i,zaw,zH,q⟩:=q;have x:o%100∉l:=by simpa using x
     have zZ:o%100∈Region.ready j c (eT r l):=by rw[i];simp
     obtain⟨_,zn,y,_⟩:=mem_ready.1 zZ;have zd:nth zt (o%100)=some zn:=D1;simp only[ga,zd,ba,M zE,M zi]at e;have e:=e w (by
      unfold JP;split
      .rename_i zq;exact zI (mb zq)
      .exact zs)
     rw[M zi]at W;obtain⟨A,rfl⟩:∃A,I=A+1:=⟨I-1,Z⟩;have zR:∀a∈b,a.2.1∉zn.looksAt c/\zn.dst≠some a.2.1:=λa p=>by exact JT
     refine⟨λzq=>?_,λh B=>?_⟩
     .exfalso;cases zal:u with
      |cons g zaP=>have:=zao g (by rw[zal];exact hd);rw[zq]at this;cases this
      |nil=>
       have zaG:∀g∈l,g∈b.map (·.1):=λg n=>(k g n).2.1.resolve_left (by rw[zal];simp);have:o%100∈Region.ready j c (eT r (b.map (·.1))):=by
        refine DX zZ ?_ (λm C=>?_)
        .have s:=(mem_ready.1 zZ).1;rw[qx]at s;simp only[tk]at s;exact zaj _ x s.1
        .rw[yU]at C⊢;simp only[k5,dB,yX]at C⊢;exact C.imp id λe=>⟨zaG m e.1,e.2⟩
       rw[zq]at this;cases this
     .by_cases G:h∈l
      .exact JV
      .have zas:=zab l h G z1 B;rw[i]at zas;obtain rfl:h=o%100:=df.1 zas;have zF:wpOp d c k4 (o%100) (λzM J=>(o/100=1->aM.r w J)/\ba aM d c f l.length (ga zt zK) ((w.heap.size,J.heap.size)::za) zM J) K w:=by unfold wpOp;simp only[y];exact JW
       refine nH ?_ (JR y (λzW zx=>tl z8 _ _ zW zx y) b K _ zR zF);rintro zM J ⟨zx,rfl,zV,zay⟩;have zaa:o/100=1\/(o%100∈ze/\l=[]):=zaw.imp id λe=>kf;refine⟨λzo=>zV (zaa.resolve_right λe=>zo e.1),?_⟩;have zz:=zm.set B;rw[vT]at zz⊢;refine zJ A zK l u b _ _ _ J J (by simp at zl;omega) Z q zz (λg n=>?_) H zv zc (λa p=>?_) zD zr zA ?_ (aM.refl _) (λ_=>rfl) zay
       .exact JU
       .obtain⟨s,z,D,F,L,zy⟩:=O a p;have zB:o/100=1:=zaa.resolve_right λe=>by rw[e.2]at s;cases s
        refine⟨s,λE k=>?_,D,F,L,zaH.elim (λa=>zy.S (a _ _ (zV zB)) U) λa=>absurd (k _ s).1 (by rw[a];exact eC)⟩;rcases bu.1 k with rfl|k
        .exact .inl zy.lt
        .exact z E k
       .rcases zaa with zB|zB
        .rcases zj with zj|zj
         .exact .inl zj
         .refine .inr λE k=>?_;rcases bu.1 k with rfl|k
          .exact a' _
          .exact b7 (zj E k) (aM.size (zV zB))
        .exact .inl zB.2
theorem D2(b:Qak):Shut j b (Array.replicate b.size false):=λc d _ a=>by rw[getD_replicate_false]at a;cases a
def yZ(i:Qav)(e:Qak)(h:af)(b:af):Bool:=(b.all λa=>match e[a]? with
 |some c=>(match pj c with
  |some (g,f)=>c.after.isEmpty&&(!h.contains a&&(((i.info? g).bind (·.zero)).isSome&&b.all λd=>d==a||((e[d]?.bind (·.dst)) !=some f)))
  |none=>false)
 |none=>false)&&decide b.Nodup
def qz(b:af):af:=(b.filter λa=>a/100==2).map (·%100)
theorem WX{y:Qaa}{f:N}(e:af)(L:(∀f t,aM.r f t->V [] f t)\/e=[])(g:af)(P:d.follows .mixedOrders=true) (z:(Region.noSelect s.toArray&&(oH .any s.toArray (qz g) e g (Array.replicate s.toArray.size false)&&decide (qy g+e.length<=s.length)))=true) (o:yZ d s.toArray (qz g) e=true) (a:ba aM d s.toArray (λza t=>y .normal za t) e.length (ga s g) [(0,f.heap.size)] b f.drew):(Code.region zw s.toArray true).wp d y b f:=by
 simp only[dB,mX]at z;obtain⟨F,D,zb⟩:=z;unfold yZ at o;rw[dB,mX]at o;obtain⟨o,A⟩:=o;have x:∀a∈e,a<s.toArray.size/\∃n j l,vU d s.toArray (qz g) a n j l/\∀k∈e,k=a\/(s.toArray[k]?.bind (·.dst))≠some j:=λa c=>by
  have h:=ke.1 o a c;cases m:s.toArray[a]? with
  |none=>simp[m]at h
  |some w=>
   simp only[m]at h;cases q:pj w with
   |none=>simp[q]at h
   |some E=>obtain⟨n,j⟩:=E;simp only[q,dB]at h;obtain⟨i,p,J,K⟩:=h;obtain⟨l,O⟩:=tm.1 J;refine⟨(ht.1 m).1,n,j,l,⟨⟨w,m,q,iB⟩,O,mY⟩,λk u=>?_⟩;have:=ke.1 K k u;simpa only[k5,iz,qA]using this
 refine y0 P (JO (aM:=aM) (ze:=qz g) _ _ _ _ ?_);refine WW (aM:=aM) (zC:=e) (j:=.any) L F (λa c=>by obtain⟨_,n,j,l,h,_⟩:=x a c;exact⟨n,j,l,h⟩) (λa c k u n zd j l ze I Q=>?_) (zt:=s) rfl _ s.toArray.size g e e [] _ [(0,f.heap.size)] b f.drew f.drew rfl (by simpa using zb) D (D2 _) (λa c=>⟨c,.inl c,getD_in (by simpa using(x a c).1) (getD_replicate_false _ _)⟩) (λa c=>⟨c,U⟩) A A U U U U (.inr U) (aM.refl _) (λ_=>rfl) a;obtain⟨_,zj,zf,zh,G,i⟩:=x a c;obtain⟨w,m,q,_⟩:=I.op;obtain⟨zc,B,C,_⟩:=G.op;rw[m]at B;cases B
 rw[q]at C;cases C
 rcases i k u with r|r
 .exact r.symm
 .obtain⟨zi,W,H,_⟩:=Q.op;rw[W]at r;exact absurd (yT H).2.2 r
end
def D3(b:Qax):Bool:=match b.op with
 |.move _|.assign _|.pick _ _ _|.build _ _|.load _ _|.binOp _ _ _ _ _|.unOp _ _ _|.convert _ _ _|.slice _ _ _ _ _|.fieldAddr _ _ _|.field _ _ _|.indexAddr _ _ _|.index _ _ _|.extract _ _|.nilCheck _=>true
 |.call a=>match a.callee with|.builtin .len=>true|.builtin .cap=>true|.builtin .max=>true|.builtin .min=>true|_=>false
 |_=>false
def vW:Result Next->Bool
 |.ok (.value _) _=>true
 |.ok _ _=>false
 |.halt _ _=>true
theorem WY{a:N}(b:Sem Value):vW ((do pure (.value (<-b)):Sem Next).run d a)=true:=by rw[eS];cases b.run d a<;>rfl
theorem WZ(a:Result Value):vW (a.andThen λc b=>Result.ok (Next.value c) b)=true:=by cases a<;>rfl
theorem D4{f:Qax}{h:N}(c:D3 f=true)(j:∀b,f.op=.nilCheck b->∃e,zq b=.pointer e):vW ((execOp zq f).run d h)=true:=by
 unfold D3 at c;unfold execOp;split at c;case h_1 b a=>simp only[a];rfl
 case h_2 b a=>simp only[a];rfl
 case h_3 g b l a=>simp only[a];rw[eS];cases(asBool (zq g)).run d h<;>rfl
 case h_15 b a=>simp only[a];obtain⟨e,k⟩:=j b a;rw[k];cases e<;>rfl
 case h_16 g a=>split at c<;>(rename_i i;simp only[a,resolve,i];simp only[eS,iW,gl,invoke,builtin];first|exact WZ _|cases c)
 case h_17=>cases c
 all_goals (rename_i a;simp only[a];exact WY _)
section
variable {d:Qav}{c:Qak}{f:Qab}{g:Nat}{o:Qai}{B:Qaj}{e:Qax}{b:Act}{a:N}
theorem rK(i:Region.wanted e (yielded c b.tmps)=false)(h:ba aM d c f g o B (b.put e.dst undef) a):ba aM d c f g ((e,0)::o) B b a:=⟨undef,.inr ⟨i,rfl⟩,h⟩
def jK(a:Qax):Bool:=D3 a&&(match a.op with|.nilCheck _=>false|_=>true)
theorem D5{v:Qas}{c:N}(a:(match e.dst with|some C=>decide (C<b.tmps.size)|none=>false)=true)(g:vW ((execOp b.eval e).run d c)=true) (f:e.wp d b c (λk i=>k=b.put e.dst v/\i=c) λ_ _ _=>False):(execOp b.eval e).run d c=.ok (.value v) c:=by
 unfold Oper.wp at f;generalize (execOp b.eval e).run d c=l at*;unfold vW at g;split at g
 .rename_i I i;simp only[Oper.upon]at f;obtain⟨j,rfl⟩:=f;cases ak:e.dst with
  |none=>rw[ak]at a;cases a
  |some C=>
   rw[ak]at j a;have a:C<b.tmps.size:=by simpa using a
   have:(b.put (some C) I).tmps[C]? =(b.put (some C) v).tmps[C]? :=by rw[j]
   have:I=v:=by simpa[Act.put,a]using this
   rw[this]
 .cases g
 .rename_i h i;cases h<;>simp only[Oper.upon]at f
theorem JX(a:u:=by have k:aM.r a j:=k;simp only[jK,dB]at i;exact D5 m (D4 i.1 λh l=>D6) (p j k _ (Y ⟨rfl,rfl⟩))):u:=a
theorem JY(v:Qas)(m:(match e.dst with|some C=>decide (C<b.tmps.size)|none=>false)=true)(i:jK e=true)(r:cB e c b) (p:∀j,aM.r a j->∀n:Qab,Hid (n (b.put e.dst v) j)->e.wp d b j n λ_ _ _=>False) (q:ba aM d c f g o B (b.put e.dst v) a):ba aM d c f g ((e,0)::o) B b a:=by refine⟨v,.inl ⟨r,λj k=>?_⟩,q⟩;exact JX
theorem qB(v:Qas)(k:(match e.dst with|some C=>decide (C<b.tmps.size)|none=>false)=true)(i:jK e=true)(n:cB e c b) (p:∀h,∀j:Qab,Hid (j (b.put e.dst v) h)->e.wp d b h j λ_ _ _=>False) (m:ba aM d c f g o B (b.put e.dst v) a):ba aM d c f g ((e,3)::o) B b a:=by refine⟨v,.inl ⟨n,λh _=>?_⟩,m⟩;simp only[jK,dB]at i;exact D5 k (D4 i.1 λq l=>D6) (p h _ (Y ⟨rfl,rfl⟩))
theorem mf{h:Qau}(m:k=0\/k=3)(n:e.op=.nilCheck h)(l:b.eval h=.pointer (some zs))(i:cB e c b) (j:ba aM d c f g o B (b.put e.dst (.pointer (some zs))) a):ba aM d c f g ((e,k)::o) B b a:=by unfold ba;rw[ae m];refine⟨_,.inl ⟨i,λp _=>?_⟩,j⟩;unfold execOp;simp only[n,l];rfl
theorem W0(v:Qas)(j:cB e c b)(k:∀h,aM.r a h->(execOp b.eval e).run d h=.ok (.value v) h)(i:ba aM d c f g o B (b.put e.dst v) a):ba aM d c f g ((e,0)::o) B b a:=⟨v,.inl ⟨j,k⟩,i⟩
theorem el(k:∀i:Qab,(∀h g,ba aM d c f 0 o ((a.heap.size,g.heap.size)::B) h g->i h g)->wpList d c (Nm i) [e] b a):ba aM d c f 0 ((e,2)::o) B b a:=by intro j m;obtain rfl:j=a:=m;exact k _ λ_ _ n=>⟨λl=>absurd l R,n⟩
theorem W1(e:f b a):ba aM d c f 0 [] B b a:=e
theorem W2(n:cB e c b)(p:∀a,(execOp b.eval e).run d a=.ok (.enter Q zc) a)(k:Calls d Q zc a zj) (l:∀h g,zj h g->∃j,h=.returned j/\aM.r a g/\ba aM d c f 0 o ((a.heap.size,g.heap.size)::B) (b.put e.dst j) g):ba aM d c f 0 ((e,1)::o) B b a:=by intro m i;obtain rfl:m=a:=i;unfold wpList;rw[ae n];refine .inl ?_;unfold Oper.wp;rw[p];refine k.mono λh g r=>?_;obtain⟨j,rfl,i,q⟩:=l h g r;exact⟨λ_=>i,q⟩
end
def bA(b:af):dU where
 r:=V b
 refl a:=V.refl _ _
 trans h k:=h.trans k (b3.refl _ _)
 up h:=h.mono U
 size h:=h.size
section
variable {x:af}{d:Qav}{c:Qak}{f:Qab}{g:Nat}{o:Qai}{B:Qaj}{e:Qax}{b:Act}{a:N}
theorem mg(v:Qas)(l:(match e.dst with|some C=>decide (C<b.tmps.size)|none=>false)=true)(r:jK e=true)(p:cB e c b) (q:∀h,V x a h->(∀i,i.block∉x->(a.cell? i).isSome=true->h.cell? i=a.cell? i)->∀j:Qab,Hid (j (b.put e.dst v) h)->e.wp d b h j λ_ _ _=>False) (m:ba (bA x) d c f g o B (b.put e.dst v) a):ba (bA x) d c f g ((e,0)::o) B b a:=JY v l r p (λh k=>q h k λi n s=>by obtain⟨u,t⟩:=tm.1 s;exact(show V x a h from k).au (f' _ _ t) n) m
theorem rL(v:Qas)(j:cB e c b)(k:∀h,V x a h->(execOp b.eval e).run d h=.ok (.value v) h)(i:ba (bA x) d c f g o B (b.put e.dst v) a):ba (bA x) d c f g ((e,0)::o) B b a:=⟨v,.inl ⟨j,k⟩,i⟩
theorem gn(l:∀j:Qab,(∀i g,V x a g->ba (bA x) d c f 0 o ((a.heap.size,g.heap.size)::B) i g->j i g)->wpList d c (Nm j) [e] b a):ba (bA x) d c f 0 ((e,1)::o) B b a:=by intro k h;obtain rfl:k=a:=h;exact l _ λ_ _ h m=>⟨λ_=>h,m⟩
theorem JZ(m:∀h,V x a h->∀l:Qab,(∀k i,V x h i->ba (bA x) d c f (g+1) o ((h.heap.size,i.heap.size)::B) k i->l k i)->wpList d c (Nm l) [e] b h):ba (bA x) d c f (g+1) ((e,1)::o) B b a:=λh j=>m h j _ λ_ _ j n=>⟨λ_=>j,n⟩
theorem W3(m:cB e c b)(n:∀a,(execOp b.eval e).run d a=.ok (.enter Q zc) a)(j:Calls d Q zc a zj) (k:∀h g,zj h g->∃i,h=.returned i/\V x a g/\ba (bA x) d c f 0 o ((a.heap.size,g.heap.size)::B) (b.put e.dst i) g):ba (bA x) d c f 0 ((e,1)::o) B b a:=by refine gn λs r=>?_;unfold wpList;rw[ae m];refine .inl ?_;unfold Oper.wp;rw[n a];refine j.mono λh g q=>?_;obtain⟨i,rfl,l,p⟩:=k h g q;exact r _ _ l p
theorem W4(q:pj e=some (p,C))(r:(d.info? p).bind (·.zero)=some zn) (l:∀i h,V x a i->ag i h p zn.cells->lq B h->ba (bA x) d c f (g-1) o ((h,h+1)::B) (b.put (some C) (ab h)) i):ba (bA x) d c f g ((e,4)::o) B b a:=by
 intro t w u i h j k m n s;rw[q]at j;cases j
 rw[r]at k;cases k
 exact l i h m n s
theorem W5{l:Nat}{i n:Qat}{h:Qad}{k:TypeDesc}(m:Qau)(s:cB e c b)(w:e.op=.load i m)(u:b.eval m=ab l)(q:ag a l n h) (x:d.underlying i=some k) (ak:(match k with|.struct _|.array _ _=>true|_=>false)=true) (t:(d.info? i).map (·.size)=some h.size) (r:ba (bA []) d c f g o B (b.put e.dst (h)) a):ba (bA []) d c f g ((e,0)::o) B b a:=by refine⟨h,.inl ⟨s,λp j=>?_⟩,r⟩;have j:V [] a p:=j;unfold execOp;simp only[w,u,Instr.loadAt,Instr.sureAddr,eS,iW,gl,tn p l n i h (0,0) k (q.S j U) x ak t]
end
def rM(f:af)(e:List Addr):dU where
 r a F:=V f a F/\∀b∈e,(a.cell? b).isSome=true->F.cell? b=a.cell? b
 refl a:=⟨V.refl _ _,λ_ _ _=>rfl⟩
 trans h k:=⟨h.1.trans k.1 (b3.refl _ _),λb d c=>by rw[k.2 b d (by rw[h.2 b d c];exact c),h.2 b d c]⟩
 up h:=⟨h.mono U,λb _ c=>by obtain⟨i,g⟩:=tm.1 c;exact h.au (f' _ _ g) U⟩
 size h:=h.1.size
theorem D7{e:af}{b:List Addr}{c:N}{a:Qay}(f:(rM e b).r c F)(g:a∈b)(d:c.cell? a=some v):F.cell? a=some v:=(f.2 a g (by rw[d];rfl)).trans d
section
variable {aM:dU}{x:af}{d:Qav}{c:Qak}{g:Nat}{o:Qai}{B:Qaj}{e:Qax}{b:Act}{a:N}{f:Qab}{v:Qas}
theorem W6(f:Region.wanted e (yielded c b.tmps)=false):YieldsIf d c (h9 aM false a) e undef b:=.inr ⟨f,rfl⟩
theorem J0{g:Bool}{f:Qau}(j:e.op=.nilCheck f)(h:b.eval f=.pointer (some zs))(i:cB e c b):YieldsIf d c (h9 aM g a) e (.pointer (some zs)) b:=.inl ⟨i,λk _=>by unfold execOp;simp only[j,h];rfl⟩
theorem J1(m:(match e.dst with|some C=>decide (C<b.tmps.size)|none=>false)=true)(i:jK e=true)(g:cB e c b) (p:∀j,aM.r a j->∀f:Qab,Hid (f (b.put e.dst v) j)->e.wp d b j f λ_ _ _=>False):YieldsIf d c (h9 aM false a) e v b:=by refine .inl ⟨g,λj k=>?_⟩;exact JX
theorem J2(j:(match e.dst with|some C=>decide (C<b.tmps.size)|none=>false)=true)(n:jK e=true)(l:cB e c b) (m:∀f,V x a f->(∀g,g.block∉x->(a.cell? g).isSome=true->f.cell? g=a.cell? g)->∀h:Qab,Hid (h (b.put e.dst v) f)->e.wp d b f h λ_ _ _=>False):YieldsIf d c (h9 (bA x) false a) e v b:=J1 j n l λf i=>m f i λg k o=>by obtain⟨q,p⟩:=tm.1 o;exact(show V x a f from i).au (f' _ _ p) k
theorem vX(i:(match e.dst with|some C=>decide (C<b.tmps.size)|none=>false)=true)(j:jK e=true)(m:cB e c b) (n:∀f,V [] a f->(∀g,(a.cell? g).isSome=true->f.cell? g=a.cell? g)->∀h:Qab,Hid (h (b.put e.dst v) f)->e.wp d b f h λ_ _ _=>False):YieldsIf d c (h9 (bA []) false a) e v b:=J2 i j m λf k l=>n f k λg=>l g U
theorem W7(h:(match e.dst with|some C=>decide (C<b.tmps.size)|none=>false)=true)(i:jK e=true)(j:cB e c b) (k:∀f,∀g:Qab,Hid (g (b.put e.dst v) f)->e.wp d b f g λ_ _ _=>False):YieldsIf d c (h9 aM true a) e v b:=by simp only[jK,dB]at i;exact .inl ⟨j,λf _=>D5 h (D4 i.1 λm l=>D6) (k f _ (Y ⟨rfl,rfl⟩))⟩
theorem W8(h:ba aM d c f g o B (b.put e.dst v) a)(i:YieldsIf d c (h9 aM false a) e v b:=by(first|exact W6 rfl|exact J0 rfl rfl rfl|(apply vX rfl rfl rfl;intro F b c zh a;(go_wp2_with fail)<;>exact a.out)|(apply J2 rfl rfl rfl;intro F b c zh a;(go_wp2_with fail)<;>exact a.out)|(apply J1 rfl rfl rfl;intro F b zh a;(go_wp2_with fail)<;>exact a.out))):ba aM d c f g ((e,0)::o) B b a:=⟨v,i,h⟩
theorem W9(h:ba aM d c f g o B (b.put e.dst v) a)(i:YieldsIf d c (h9 aM true a) e v b:=by(first|exact J0 rfl rfl rfl|(apply W7 rfl rfl rfl;intro F zh a;(go_wp2_with fail)<;>exact a.out))):ba aM d c f g ((e,3)::o) B b a:=⟨v,i,h⟩
theorem hR(a:y)(b:y->w:=by(intro d;(first|(refine W8 ?_;simp only[az])|(refine W9 ?_;simp only[az]));exact d)):w:=b a
theorem W'{aM:dU}{h:Qav}{j:Qak}{g:Qab}{e i:Nat}{c:Qai}{b:Qaj}{a:Qax}{f:Act}{d:N}(k:ba aM h j g e ((a,i)::c) b f d)(l:(match a.op with|.load _ _=>true|_=>false)=true:=by rfl):ba aM h j g e ((a,i)::c) b f d:=k
theorem Xa(a:y)(b:y->w:=by(intro d;refine W' ?_;(first|refine b.fw 0 ?zg ?_|refine b.fw 1 ?zg ?_|refine b.fw 2 ?zg ?_|refine b.fw 3 ?zg ?_|refine b.fw 4 ?zg ?_|refine b.fw 5 ?zg ?_|refine b.fw 6 ?zg ?_|refine b.fw 7 ?zg ?_|refine b.fw 8 ?zg ?_|refine b.fw 9 ?zg ?_);(case zg=>exact Xb);simp only[az];exact d)):w:=b a
theorem Xb(a:w:=by(first|exact aB|exact dI|exact cE _|exact lr _ _|exact cX _|exact cH _|exact ls|exact eU _|exact cP _|exact vY _ _|exact a64 _|exact gp _|exact y1 _ _ _ _ _|exact en|exact J3|exact lu|exact dC|exact kg _ _)):w:=a
theorem lv(a:y)(b:y->w:=by(intro d;(try simp only[az]);refine hR ?_;exact d)):w:=b a
theorem ax(a:y)(b:y->w:=by(intro d;(try simp only[az]);(repeat (first|refine hR ?_|refine Xa ?_));(try refine W1 ?_);exact d)):w:=b a
theorem jL(a:y)(b:y->w:=by(intro d;(try simp only[az]);(iterate 2 refine hR ?_);exact d)):w:=b a
theorem iX(a:y)(b:y->w:=by(intro d;(try simp only[az]);(iterate 3 refine hR ?_);exact d)):w:=b a
theorem pk(a:y)(b:y->w:=by(intro d;(try simp only[az]);(iterate 4 refine hR ?_);exact d)):w:=b a
theorem lx(a:y)(b:y->w:=by(intro d;(try simp only[az]);(iterate 5 refine hR ?_);exact d)):w:=b a
theorem vZ(a:y)(b:y->w:=by(intro d;(try simp only[az]);(iterate 6 refine hR ?_);exact d)):w:=b a
theorem y2(a:y)(b:y->w:=by(intro d;(try simp only[az]);(iterate 7 refine hR ?_);exact d)):w:=b a
theorem nI(a:y)(b:y->w:=by(intro d;(try simp only[az]);(iterate 8 refine hR ?_);exact d)):w:=b a
theorem J4(a:y)(b:y->w:=by(intro d;(try simp only[az]);(iterate 9 refine hR ?_);exact d)):w:=b a
theorem to(a:y)(b:y->w:=by(intro d;(try simp only[az]);(iterate 10 refine hR ?_);exact d)):w:=b a
theorem D8(a:y)(b:y->w:=by(intro d;(try simp only[az]);(iterate 11 refine hR ?_);exact d)):w:=b a
theorem Xc(a:y)(b:y->w:=by(intro d;(try simp only[az]);(iterate 12 refine hR ?_);exact d)):w:=b a
theorem ak1(a:y)(b:y->w:=by(intro d;(try simp only[az]);(iterate 13 refine hR ?_);exact d)):w:=b a
theorem ak2(a:y)(b:y->w:=by(intro d;(try simp only[az]);(iterate 15 refine hR ?_);exact d)):w:=b a
theorem Xd(a:y)(b:y->w:=by(intro d;(try simp only[az]);(iterate 16 refine hR ?_);exact d)):w:=b a
theorem ak3(a:y)(b:y->w:=by(intro d;(try simp only[az]);(iterate 17 refine hR ?_);exact d)):w:=b a
theorem ak4(a:y)(b:y->w:=by(intro d;(try simp only[az]);(iterate 18 refine hR ?_);exact d)):w:=b a
theorem J5(a:y)(b:y->w:=by(intro d;(try simp only[az]);(iterate 19 refine hR ?_);exact d)):w:=b a
theorem Xe(a:y)(b:y->w:=by(intro d;(try simp only[az]);(iterate 23 refine hR ?_);exact d)):w:=b a
theorem J6(a:y)(b:y->w:=by(intro d;(try simp only[az]);(iterate 26 refine hR ?_);exact d)):w:=b a
theorem Xf(a:y)(b:y->w:=by(intro d;(try simp only[az]);(iterate 32 refine hR ?_);exact d)):w:=b a
theorem ak5(a:y)(b:y->w:=by(intro d;(try simp only[az]);(iterate 36 refine hR ?_);exact d)):w:=b a
theorem ly{p:Nat}{g:Qaa}(e:af)(m:(∀a f,aM.r a f->V [] a f)\/e=[])(c:af){i:Qai}{h:Nat}(j:ba aM d s.toArray (λr f=>g .normal r f) h i [(0,a.heap.size)] b a.drew) (k:ga s c=i:=by(simp only[ga,nth,Nat.reduceMod,Nat.reduceDiv];rfl)) (o:e.length=h:=by rfl) (q:d.follows .mixedOrders=true:=by kernel_rfl) (l:(Region.noSelect s.toArray&&(oH .any s.toArray (qz c) e c (Array.replicate s.toArray.size false)&&decide (qy c+e.length<=s.length)))=true:=by kernel_rfl) (n:yZ d s.toArray (qz c) e=true:=by kernel_rfl):(Code.region p s.toArray true).wp d g b a:=by subst k o;exact WX e m c q l n j
theorem rg{n:Nat}{g:Qaa}(e:af)(c:af){i:Qai}{h:Nat}(f:ba (bA []) d s.toArray (λj o=>g .normal j o) h i [(0,a.heap.size)] b a.drew) (l:ga s c=i:=by(simp only[ga,nth,Nat.reduceMod,Nat.reduceDiv];rfl)) (m:e.length=h:=by rfl) (q:d.follows .mixedOrders=true:=by kernel_rfl) (p:(Region.noSelect s.toArray&&(oH .any s.toArray (qz c) e c (Array.replicate s.toArray.size false)&&decide (qy c+e.length<=s.length)))=true:=by kernel_rfl) (k:yZ d s.toArray (qz c) e=true:=by kernel_rfl):(Code.region n s.toArray true).wp d g b a:=ly e (.inl λ_ _ f=>f) c f l m q p k
theorem bN(j:Calls d Q zc a zj) (k:∀h g,zj h g->∃i,h=.returned i/\aM.r a g/\ba aM d c f 0 o ((a.heap.size,g.heap.size)::B) (b.put e.dst i) g) (m:cB e c b:=by rfl) (l:∀a,(execOp b.eval e).run d a=.ok (.enter Q zc) a:=by(intro a;first|(go_simp;done)|(go_simp;rfl))):ba aM d c f 0 ((e,1)::o) B b a:=W2 m l j k
theorem Xg(l:cB e c b)(m:∀a,(execOp b.eval e).run d a=.ok (.enter Q zc) a)(j:Calls d Q zc a zj) (k:∀h g,zj h g->∃i,h=.returned i/\ba aM d c f 0 o ((a.heap.size,g.heap.size)::B) (b.put e.dst i) g):ba aM d c f 0 ((e,2)::o) B b a:=by refine el λr q=>?_;unfold wpList;rw[ae l];refine .inl ?_;unfold Oper.wp;rw[m a];refine j.mono λh g p=>?_;obtain⟨i,rfl,n⟩:=k h g p;exact q _ _ n
theorem iC(j:Calls d Q zc a zj) (k:∀h g,zj h g->∃i,h=.returned i/\ba aM d c f 0 o ((a.heap.size,g.heap.size)::B) (b.put e.dst i) g) (m:cB e c b:=by rfl) (l:∀a,(execOp b.eval e).run d a=.ok (.enter Q zc) a:=by(intro a;first|(go_simp;done)|(go_simp;rfl))):ba aM d c f 0 ((e,2)::o) B b a:=Xg m l j k
end
end cr
def iw(b:aj)(c:Int)(d:Nat):Bool:=(List.range d).all λa=>decide (-c<=b a/\b a<=c)
theorem pn{b:aj}{c:Int}:iw b c g=true↔∀a,a<g->-c<=b a/\b a<=c:=by simp[iw]
theorem D9{a:aj}{c:Int}(b:iw a c g=true)(d:-c<=a g/\a g<=c):iw a c (g+1)=true:=by rw[pn]at b⊢;exact J7
theorem D'{a:aj}{b:Int}(c:D<g)(d:¬(-b<=a D/\a D<=b)):iw a b g=false:=by rw[yY];intro e;exact d (pn.1 e D c)
def tp(c:Nat)(b:aj):Prop:=∀a,a<c->-9223372036854775808<=b a/\b a<=9223372036854775807
theorem ag.y3(b:Qat)(d:Obj)(c:Qad):ag ((a.alloc d).alloc (.cells c b)) (a.heap.size+1) b c:=by have:=ag.aP (a.alloc d) b c;simpa using this
theorem at_world{c:bU}{a:Code}(h:c O)(g:∀e,c e->Code.wp d a f b e):Code.wp d a f b O:=g _ h
theorem Xh:(prog.info? 230).map (·.size)=some 64:=ar
theorem qC:(prog.info? 230).map (·.size)=some (an .i64 64 h).size:=by rw[gO];exact Xh
section
variable {c:Qak}{m:Qal}{e:Qax}{b:Act}{a:N}{f:Qaa}{n:Nat}{h L:aj}{z zb:Qau}
theorem nJ(d:ag a n 230 (an .i64 64 h))(i:e.guard=none)(k:e.op=.load 230 z)(j:b.eval z=ab n) (g:wpList prog c f m (b.put e.dst (an .i64 64 h)) a):wpList prog c f (e::m) b a:=rN i 230 z k n j 230 _ (0,0) _ d underlying230 rfl (qC _) g
theorem Ea(d:ag a n 230 (an .i64 64 h))(i:e.guard=none)(l:e.op=.store 230 z zb)(j:b.eval z=ab n)(k:b.eval zb=(an .i64 64 L)) (g:wpList prog c f m (b.put e.dst undef) (a.setRow n (an .i64 64 L))):wpList prog c f (e::m) b a:=DP i 230 z zb l n _ j k 230 _ d (qC _) tq e6 g
theorem tr{c:Tmp}(e:zd.results=#[.cell c 230]){b:Qad}(f:ag a n 230 (an .i64 64 h))(d:b.getD c undef=ab n):(results zd b).run prog a=.ok (an .i64 64 h) a:=v' e b a n 230 _ (0,0) _ d f underlying230 rfl (qC _)
end
theorem qD:dJ 230 (.agg (an .i64 64 λ_=>0)):=dM
section
variable {c:Qak}{m:Qal}{e:Qax}{b:Act}{a:N}{f:Qaa}{z zb:Qau}
theorem k6(i:e.guard=none)(j:e.op=.alloc 230)(h:∀d g,ag g d 230 (an .i64 64 λ_=>0)->V [] a g->a.heap.size<=d->wpList prog c f m (b.put e.dst (ab d)) g):wpList prog c f (e::m) b a:=cw _ _ i j qD rfl h
theorem ts{h:aj}(j:e.guard=none)(l:e.op=.box 230 z)(k:b.eval z=(an .i64 64 h))(i:∀d g,ag g d 230 (an .i64 64 h)->V [] a g->a.heap.size<=d->wpList prog c f m (b.put e.dst (ab d)) g):wpList prog c f (e::m) b a:=cx _ _ j l k rfl i
theorem mZ{d:Nat}{h:aj}(i:ag a d 230 (an .i64 64 h))(k:e.guard=none)(o:e.op=.store 230 z zb)(l:b.eval z=ab d)(n:b.eval zb=(an .i64 64 L)) (j:∀g,ag g d 230 (an .i64 64 L)->V [d] a g->g.heap.size=a.heap.size->wpList prog c f m (b.put e.dst undef) g):wpList prog c f (e::m) b a:=vR _ i k o l n (qC _) tq e6 j
end
def T(b a:Nat):Int:=(([[8,8,8,8,8,8,8,8],[12,10,6,3,-3,-6,-10,-12],[8,4,-4,-8,-8,-4,4,8],[10,-3,-12,-6,6,12,3,-10],[8,-8,-8,8,8,-8,-8,8],[6,-12,3,10,-10,-3,12,-6],[4,-8,8,-4,-4,8,-8,4],[3,-6,10,-12,12,-10,6,-3]]:List (List Int)).getD b []).getD a 0
def lz(a:Nat):Int:=T (a/8) (a%8)
def Nm(a:Nat):Int:=([512,578,320,578,512,578,320,578]:List Int).getD a 0
section
variable {c:Qak}{m:Qal}{e:Qax}{b:Act}{a:N}{f:Qaa}{n:Nat}{h L:aj}{z zb:Qau}
theorem J8(a:aj):(prog.info? 344).map (·.size)=some (an .i64 64 a).size:=by rw[gO];kernel_rfl
theorem Eb(d:ag a n 344 (an .i64 64 h))(i:e.guard=none)(l:e.op=.store 344 z zb)(j:b.eval z=ab n)(k:b.eval zb=(an .i64 64 L)) (g:wpList prog c f m (b.put e.dst undef) (a.setRow n (an .i64 64 L))):wpList prog c f (e::m) b a:=DP i 344 z zb l n _ j k 344 _ d (J8 _) tq e6 g
theorem Xi{c:Tmp}(e:zd.results=#[.cell c 344]){b:Qad}(f:ag a n 344 (an .i64 64 h))(d:b.getD c undef=ab n):(results zd b).run prog a=.ok (an .i64 64 h) a:=v' e b a n 344 _ (0,0) _ d f underlying344 rfl (J8 _)
theorem Xj{parts:Array (Nat×Operand)}(g:Qad)(l:e.guard=none)(k:e.op=.build 344 parts)(d:prog.built 344 (parts.map λ(i,h)=>(i,b.eval h)).toList=some g) (j:wpList prog c f m (b.put e.dst (g)) a):wpList prog c f (e::m) b a:=y4 l _ parts k wa (by rw[d];exact j)
end
theorem J9:Calls prog 228 #[] a λc b=>c=.returned (an .i64 64 lz)/\V [] a b:=by
 go_in;go_wp2_with(first|refine Xj (an .i64 64 lz) rfl rfl ar ?_|refine Eb (h:=λ_=>0) (n:=a.heap.size) (ag.aP _ _ _) rfl rfl rfl rfl ?_)
 exact bB (Xi rfl (ag.row (i:=an .i64 64 λ_=>0) (ag.aP _ _ _) _) rfl) ⟨rfl,((V.refl _ _).alloc _).setRow (.inr (a' _)) _⟩
theorem J':Calls prog 229 #[] a λc b=>c=.returned (an .i64 8 Nm)/\V [] a b:=by
 go_in;go_wp2_with fail
 exact bB (v' rfl _ _ a.heap.size 343 (an .i64 8 Nm) (0,0) _ rfl (ag.aP _ _ _) underlying343 rfl (by rw[gO];kernel_rfl)) ⟨rfl,(V.refl _ _).alloc _⟩
theorem Ec(b a:Nat)(c:a<8):lz (b*8+a)=T b a:=by unfold lz;exact Ka
theorem Xk:∀b:Fin 8,∀a:Fin 8,-12<=T b.val a.val/\T b.val a.val<=12:=bm
theorem Kb(b:l<8)(a:k<8):-12<=T l k/\T l k<=12:=Xk ⟨l,b⟩ ⟨k,a⟩
def cl(v:Int):Int:=max (-2097152) (min v 2097152)
theorem Ed(v:Int):-2097152<=cl v/\cl v<=2097152:=by unfold cl;omega
def qE(a:Int):Int:=(2*a+547363225600)/1094726451200
theorem akZ(a:Int)(b:a.tmod 1094726451200<0):a.tdiv 1094726451200-1=a/1094726451200:=by
 rw[Int.tmod_eq_emod]at b;rw[Int.tdiv_eq_ediv];split at b
 .omega
 .rename_i c;rw[M c];have:Int.sign 1094726451200=1:=rfl;omega
theorem Xl(a:Int)(c:0<=a.tmod 1094726451200):a.tdiv 1094726451200=a/1094726451200:=by
 rw[Int.tmod_eq_emod]at c;rw[Int.tdiv_eq_ediv];split at c
 .rename_i b;rw[ae b];omega
 .rename_i b;omega
theorem Xm(v:Int)(d:-100000000000000000<=v/\v<=100000000000000000):Calls prog 230 #[X v] a λb c=>b=.returned (X (qE v))/\a=c:=by
 go_in;go_wp2
 .go_ret;refine y5 ?_;rw[akZ _ (by assumption)];show wrap64 ((2*v+547363225600)/1094726451200)=(2*v+547363225600)/1094726451200;unfold wrap64;omega
 .go_ret;exact⟨aX Ending.returned (aX (Value.int IntKind.i64) (Xl _ (by assumption))),rfl⟩
def gq(a:Nat):Int:=([1445,1280,2312,1280,1445,1280,2312,1280]:List Int).getD a 0
def ef(a:aj):aj
 |0=>0
 |g+1=>ef a g+a g
theorem po{d:aj}{b:Int}:∀a,(∀c,c<a->-b<=d c/\d c<=b)->-(b*a)<=ef d a/\ef d a<=b*a
 |0,_=>by simp[ef]
 |a+1,e=>by
  have g:=po a (λc i=>e c Z);have h:=e a Z;have f:b*((a+1:Nat):Int)=b*a+b:=by rw[Int.natCast_succ,Int.mul_add,Int.mul_one]
  rw[f];simp only[ef];omega
theorem oI{a:Int}(e:-J<=a/\a<=J)(f:-G<=A/\A<=G):-(J*G)<=a*A/\a*A<=J*G:=by
 have b:0<=J:=Z;have c:0<=G:=Z;have d:(a*A).natAbs<=(J*G).natAbs:=by rw[Int.natAbs_mul,Int.natAbs_mul];exact eL Z Z
 have:0<=J*G:=qF b c;omega
theorem y6{v:Int}(a:-9223372036854775808<=v/\v<=9223372036854775807):wrap64 v=v:=by unfold wrap64;omega
theorem y7{b:aj}{a:Nat}(e:a<8)(j:G<=288230376151711744)(d:∀c,c<8->-G<=b c/\b c<=G):wrap64 (ef b a+wrap64 (b a))=ef b (a+1):=by have g:=d a e;have i:=po a (λc h=>d c Z);have f:G*(a:Int)<=G*8:=rO Z Z;rw[y6 (v:=b a) Z,y6 Z];rfl
def h'(c:aj)(a:Nat):Int:=ef (λb=>T (a%8) b*c (8*(a/8)+b)) 8
def aO(c:aj)(b:Nat):Int:=ef (λa=>T (b/8) a*h' c (8*a+b%8)) 8
theorem Kc(b a:Nat)(d:a<8):h' h (8*b+a)=ef (λc=>T a c*h (8*b+c)) 8:=by unfold h';rw[show(8*b+a)%8=a from Z,show(8*b+a)/8=b from Z]
theorem Kd(b a:Nat)(d:a<8):aO h (8*b+a)=ef (λc=>T b c*h' h (8*c+a)) 8:=by unfold aO;rw[show(8*b+a)%8=a from Z,show(8*b+a)/8=b from Z]
def nK(b:aj)(c:Int):Prop:=∀a,a<64->-c<=b a/\b a<=c
theorem Xn{a:aj}(e:nK a G):nK (h' a) (96*G):=by intro c f;have:=po (d:=λb=>T (c%8) b*a (8*(c/8)+b)) (b:=12*G) 8 (λb d=>oI (Kb Z d) (e _ Z));unfold h';omega
def jM(c:aj)(b:Nat):Int:=ef (λa=>T a (b%8)*gq a*cl (c (8*(b/8)+a))) 8
def tt(c:aj)(b:Nat):Int:=ef (λa=>T a (b/8)*gq a*jM c (8*a+b%8)) 8
def gN(a:aj)(b:Nat):Int:=qE (tt a b)
theorem Xo(d:aj)(b a:Nat)(e:a<8):jM d (8*b+a)=ef (λc=>T c a*gq c*cl (d (8*b+c))) 8:=by unfold jM;rw[show(8*b+a)%8=a from Z,show(8*b+a)/8=b from Z]
theorem Xp(d:aj)(b a:Nat)(e:a<8):tt d (8*b+a)=ef (λc=>T c b*gq c*jM d (8*c+a)) 8:=by unfold tt;rw[show(8*b+a)%8=a from Z,show(8*b+a)/8=b from Z]
theorem Xq:∀a:Fin 8,∀b:Fin 8,-18496<=T a.val b.val*gq a.val/\T a.val b.val*gq a.val<=18496:=bm
theorem rP(b:l<8)(a:k<8):-18496<=T l k*gq l/\T l k*gq l<=18496:=Xq ⟨l,b⟩ ⟨k,a⟩
theorem Ee(c:aj):nK (jM c) 310311387136:=by intro b e;have:=po (d:=λa=>T a (b%8)*gq a*cl (c (8*(b/8)+a))) (b:=18496*2097152) 8 (λa d=>oI (rP d Z) (Ed _));unfold jM;omega
theorem Xr(b:aj):nK (tt b) 45916155331739648:=by intro c e;have:=po (d:=λa=>T a (c/8)*gq a*jM b (8*a+c%8)) (b:=18496*310311387136) 8 (λa d=>oI (rP d Z) (Ee b _ Z));unfold tt;omega
theorem tu{e f:Tmp}{a:N}{c:Nat}{b:aj}(h:zd.results=#[.cell e 230,.tmp f]){d:Qad}(i:ag a c 230 (an .i64 64 b))(g:d.getD e undef=ab c):(results zd d).run prog a=.ok (.tuple #[an .i64 64 b,d.getD f undef]) a:=by rw[results_cell_tmp h,g];have:=tn (P:=prog) a c 230 230 _ (0,0) _ i underlying230 rfl (qC b);simp[asAddr,this]
section
variable {c:Qak}{m:Qal}{e:Qax}{b:Act}{a:N}{f:Qaa}{z:Qau}
theorem tv(h:e.guard=none)(i:e.op=.build 230 #[])(g:wpList prog c f m (b.put e.dst (.agg (an .i64 64 λ_=>0))) a):wpList prog c f (e::m) b a:=
 have d:prog.built 230 []=some (an .i64 64 λ_=>0):=ar
 y4 h _ #[] i (by simp[d]) (by simpa[d]using g)
end
theorem qG:(sizeOf 3).run prog a=.ok 1 a:=by
 have c:(prog.info? 3).map (·.size)=some 1:=ar;cases b:prog.info? 3 with
 |none=>simp[b]at c
 |some d=>
  have e:d.size=1:=by simpa[b]using c
  simp[sizeOf,typeInfo,b,e]
theorem oJ(b:Nat)(c:b<64)(a:N):(Instr.index 230 (an .i64 64 h) (X b)).run prog a=.ok (X (h b)) a:=yS a _ _ _ _ _ underlying230 underlying3 qG _ _ c
theorem Xs(b:aj)(a:N)(c:a=((zf.alloc (Obj.cells (an .i64 64 λ_=>0) 344)).setRow zf.heap.size (an .i64 64 lz)).alloc (Obj.cells (an .i64 64 λ_=>0) 230)):V [] zf a/\ag a zf.heap.size 344 (an .i64 64 lz)/\ag a (zf.heap.size+1) 230 (an .i64 64 (c3 0 b))/\zf.heap.size+2<=a.heap.size:=by subst c;refine⟨(((V.refl _ _).alloc _).setRow (.inr (a' _)) _).alloc _,ag.alloc (ag.row (ag.aP _ _ _) _) _,?_,U⟩;have:=ag.aP ((zf.alloc (Obj.cells (an .i64 64 λ_=>0) 344)).setRow zf.heap.size (an .i64 64 lz)) 230 (an .i64 64 λ_=>0);rw[rG];simpa using this
theorem y8{v:Int}(a:l<8)(b:k<8)(c:-G<=v/\v<=G):-(12*G)<=T l k*v/\T l k*v<=12*G:=oI (Kb a b) c
theorem Xt(a:u:=by exact bB (tu rfl (d.row _) rfl) ⟨rfl,r.setRow (.inr (by have:=u.out;omega)) _⟩):u:=a
theorem Ke(a:u:=by
 have zt:decide (255<h b)=false:=iB;go_wp2_with fail
 go_round
 .exact⟨b+1,Z,a8,D9 zf.out Z⟩
 .simp[intOf];omega):u:=a
theorem Kf(a:u:=by
 go_wp2_with(first|refine tv rfl rfl ?_|refine Ea d rfl rfl rfl rfl ?_)
 exact Xt):u:=a
theorem Kg(a:zi)(b:zi->u:=by intro zH;have f:ag ((a.alloc (Obj.cells zu 230)).alloc (Obj.cells (an .i64 64 λ_=>0) 230)) a.heap.size 230 (an .i64 64 h):=Ef;revert f;exact zH):u:=b a
theorem ak6(w:tp 64 h)(m:iw h 255 64=false):Calls prog 259 #[an .i64 64 h] a λs y=>s=.returned (.tuple #[.agg (an .i64 64 λ_=>0),X 2])/\V [] a y:=by
 have x:=Y m;clear m;generalize n:an .i64 64 h=zu;have zv:=Y n;clear n;go_in;refine Kg λf=>?_;go_wp2_with(refine nJ (h:=h) (n:=a.heap.size) f rfl rfl rfl ?_)
 clear f;refine at_world (c:=λc=>V [] a c/\a.heap.size+2<=c.heap.size/\ag c a.heap.size 230 (an .i64 64 h)/\ag c (a.heap.size+1) 230 (an .i64 64 λ_=>0)) ⟨((V.refl _ _).alloc _).alloc _,U,Ef,Kh⟩ ?_;rintro c ⟨r,q,f,d⟩;refine Eg λt p G=>?_;generalize a.heap.size+2=E at q p;generalize a.heap.size+1=D at d t p;generalize l:a.heap.size=A at f G t p;have u:=Y l;clear l;go_loop [18] (λe=>∃b:Nat,b<=64/\e=X b/\iw h 255 b=true) (λe=>64-(intOf e).toNat)
 .exact⟨0,Z,rfl,rfl⟩
 .obtain⟨b,C,rfl,k⟩:=hrel;have zf:=Y k;clear k;by_cases j:b<64
  .have ak:decide ((b:Int)<64)=true:=aw;have B:=w b j;have z:=oJ h b j;by_cases g:h b< -255
   .have o:decide (h b< -255)=true:=iD;exact Kf
   .have o:decide (h b< -255)=false:=iD;by_cases i:255<h b
    .have zt:decide (255<h b)=true:=iB;exact Kf
    .exact Ke
  .obtain rfl:b=64:=Z;exact absurd zf.out (by rw[x.out];simp)
theorem Ki(a:u:=by exact absurd (zN.out) (by rw[D' (a:=h) (b:=255) I Z];simp)):u:=a
theorem Xu(zP:tp 64 h)(zD:iw h 255 64=true):Calls prog 259 #[an .i64 64 h] a λzB zV=>zB=.returned (.tuple #[an .i64 64 (aO h),X 0])/\V [] a zV:=by
 have zN:=Y zD;clear zD;generalize zG:an .i64 64 h=zu;have zv:=Y zG;clear zG;go_in;refine Kg λf=>?_;go_wp2_with(refine nJ (h:=h) (n:=a.heap.size) f rfl rfl rfl ?_)
 clear f;refine at_world (c:=λzb=>V [] a zb/\a.heap.size+2<=zb.heap.size/\ag zb a.heap.size 230 (an .i64 64 h)/\ag zb (a.heap.size+1) 230 (an .i64 64 λ_=>0)) ⟨((V.refl _ _).alloc _).alloc _,U,Ef,Kh⟩ ?_;rintro zb ⟨zA,zX,f,L⟩;refine Eg λt p G=>?_;generalize a.heap.size+2=zab at zX p;generalize a.heap.size+1=z8 at L t p;generalize zC:a.heap.size=zaa at f G t p;have H:=Y zC;clear zC;go_loop [18] (λe=>∃b:Nat,b<=64/\e=X b/\iw h 255 b=true) (λe=>64-(intOf e).toNat)
 .exact⟨0,Z,rfl,rfl⟩
 .obtain⟨b,zF,rfl,zz⟩:=hrel;have zf:=Y zz;clear zz;by_cases I:b<64
  .have ak:decide ((b:Int)<64)=true:=aw;have z1:=zP b I;have z':=oJ h b I;by_cases g:h b< -255
   .have zW:decide (h b< -255)=true:=iD;exact Ki
   .have zW:decide (h b< -255)=false:=iD;by_cases i:255<h b
    .have zt:decide (255<h b)=true:=iB;exact Ki
    .exact Ke
  .obtain rfl:b=64:=Z;have zq:nK h 255:=pn.1 zf.out;have zx:=Xn zq;go_wp2_with fail
   refine(J9 _).mono ?_;rintro zB A ⟨rfl,O⟩;have zw:=f.S O U;have zp:=L.S O U;have zM:=zA.ad O;have zZ:=O.size;clear f L zA O;go_wp2_with(refine Eb (h:=λ_=>0) (n:=A.heap.size) (ag.aP _ _ _) rfl rfl rfl rfl ?_)
   refine at_world (c:=λF=>V [] A F/\ag F A.heap.size 344 (an .i64 64 lz)/\ag F (A.heap.size+1) 230 (an .i64 64 (c3 0 (h' h)))/\A.heap.size+2<=F.heap.size) (Xs (h' h) _ rfl) ?_;rintro F ⟨zj,zi,zn,z6⟩;have f:=zw.S zj U;have L:=zp.S zj U;have zL:=zM.ad zj;have zU:=zp.lt;have zy:A.heap.size<A.heap.size+1:=m' _;clear zw zp zj;generalize A.heap.size+1=l at zn zy;generalize A.heap.size=z7 at zi zy zU zZ;go_loopw [30] (λe wr=>∃b:Nat,b<=8/\e=X b/\V [] a wr/\V [l] F wr/\ag wr l 230 (an .i64 64 (c3 (8*b) (h' h)))) (λe _=>8-(intOf e).toNat)
   .exact⟨0,Z,rfl,zL,V.refl _ _,zn⟩
   .obtain⟨b,zF,rfl,r,o,k⟩:=hrel;by_cases I:b<8
    .have ak:decide ((b:Int)<8)=true:=aw;obtain⟨W,rfl⟩:∃W,W=wr:=⟨_,rfl⟩;go_wp2_with fail
     go_loopw [33] (λe wr=>∃d:Nat,d<=8/\e=X d/\V [] a wr/\V [l] F wr/\ag wr l 230 (an .i64 64 (c3 (8*b+d) (h' h)))) (λe _=>8-(intOf e).toNat)
     .exact wb
     .obtain⟨d,zY,rfl,C,m,s⟩:=hrel;by_cases zc:d<8
      .have zO:decide ((d:Int)<8)=true:=aw;obtain⟨J,rfl⟩:∃J,J=wr:=⟨_,rfl⟩;go_wp2_with fail
       go_loopw [10,36] (λzo e wr=>∃c:Nat,c<=8/\e=X c/\zo=X (ef (λc=>T d c*h (8*b+c)) c)/\V [] J wr) (λ_ e _=>8-(intOf e).toNat)
       .exact y9
       .obtain⟨c,z,rfl,rfl,j⟩:=hrel;by_cases za:c<8
        .have zS:decide ((c:Int)<8)=true:=aw;have zl:=((zi.S m aw).S j U).au (d*8+c);rw[dw Z,Ec d c za]at zl;have zs:=((f.S m aw).S j U).au (8*b+c);rw[dw Z]at zs;have zh:=Y (y7 (b:=λc=>T d c*h (8*b+c)) za (G:=(12*255)) Z (λc z=>y8 zc z (zq _ Z)));exact Eh
        .obtain rfl:c=8:=Z;have zk:-((12*255)*8)<=ef (λc=>T d c*h (8*b+c)) 8/\ef (λc=>T d c*h (8*b+c)) 8<=(12*255)*8:=po 8 (λc z=>y8 zc z (zq _ Z));have K:=s.S j U;have zd:(h' h) (8*b+d)=ef (λc=>T d c*h (8*b+c)) 8:=Kc h b d zc;have B:=Y zd;clear zd;generalize ef (λc=>T d c*h (8*b+c)) 8=n at zk B;refine Kj λE D y x=>?_;have q:=Y (show ag (wr.setCell ⟨l,8*b+d,none⟩ (X n)) l 230 (an .i64 64 (c3 (8*b+d+1) (h' h)))from Ei);exact Ej
      .obtain rfl:d=8:=Z;have q:=Y (show ag wr l 230 (an .i64 64 (c3 (8*(b+1)) (h' h)))from wc);exact we
    .obtain rfl:b=8:=Z;rw[oE Z]at k;have zm:=zi.S o aw;have zr:=L.S o aw;clear f L zi zn o;go_wp2_with fail
     refine at_world (c:=λze=>V [] wr ze/\ag ze wr.heap.size 230 (an .i64 64 (c3 0 (aO h)))) ⟨(V.refl _ _).alloc _,Ek⟩ ?_;rintro ze ⟨Q,zE⟩;have zI:=r.ad Q;have zJ:=k.lt;have zR:=k.S Q U;have zm:=zm.S Q U;have zr:=zr.S Q U;clear k Q r;generalize wr.heap.size=u at zE zJ;go_loopw [62] (λe wr=>∃b:Nat,b<=8/\e=X b/\V [] a wr/\V [u] ze wr/\ag wr u 230 (an .i64 64 (c3 (8*b) (aO h)))) (λe _=>8-(intOf e).toNat)
     .exact⟨0,Z,rfl,zI,V.refl _ _,zE⟩
     .obtain⟨b,zF,rfl,r,o,k⟩:=hrel;by_cases I:b<8
      .have ak:decide ((b:Int)<8)=true:=aw;obtain⟨W,rfl⟩:∃W,W=wr:=⟨_,rfl⟩;go_wp2_with fail
       go_loopw [65] (λe wr=>∃d:Nat,d<=8/\e=X d/\V [] a wr/\V [u] ze wr/\ag wr u 230 (an .i64 64 (c3 (8*b+d) (aO h)))) (λe _=>8-(intOf e).toNat)
       .exact wb
       .obtain⟨d,zY,rfl,C,m,s⟩:=hrel;by_cases zc:d<8
        .have zO:decide ((d:Int)<8)=true:=aw;obtain⟨J,rfl⟩:∃J,J=wr:=⟨_,rfl⟩;go_wp2_with fail
         go_loopw [15,68] (λzo e wr=>∃c:Nat,c<=8/\e=X c/\zo=X (ef (λc=>T b c*h' h (8*c+d)) c)/\V [] J wr) (λ_ e _=>8-(intOf e).toNat)
         .exact y9
         .obtain⟨c,z,rfl,rfl,j⟩:=hrel;by_cases za:c<8
          .have zS:decide ((c:Int)<8)=true:=aw;have zl:=((zm.S m aw).S j U).au (b*8+c);rw[dw Z,Ec b c za]at zl;have zs:=((zR.S m aw).S j U).au (8*c+d);rw[dw Z]at zs;have zh:=Y (y7 (b:=λc=>T b c*h' h (8*c+d)) za (G:=(12*24480)) Z (λc z=>y8 I z (zx _ Z)));exact Eh
          .obtain rfl:c=8:=Z;have zk:-((12*24480)*8)<=ef (λc=>T b c*h' h (8*c+d)) 8/\ef (λc=>T b c*h' h (8*c+d)) 8<=(12*24480)*8:=po 8 (λc z=>y8 I z (zx _ Z));have K:=s.S j U;have zd:(aO h) (8*b+d)=ef (λc=>T b c*h' h (8*c+d)) 8:=Kd h b d zc;have B:=Y zd;clear zd;generalize ef (λc=>T b c*h' h (8*c+d)) 8=n at zk B;refine El λE D=>?_;have y:=Y ((C.ad j).setCell (d:=⟨u,8*b+d,none⟩) (.inr (by have:=H.out;show _<=u;omega)) (X n));have x:=Y ((m.ad j).setCell (d:=⟨u,8*b+d,none⟩) (.inl U) (X n));have q:=Y (show ag (wr.setCell ⟨u,8*b+d,none⟩ (X n)) u 230 (an .i64 64 (c3 (8*b+d+1) (aO h)))from Ei);exact Ej
        .obtain rfl:d=8:=Z;have q:=Y (show ag wr u 230 (an .i64 64 (c3 (8*(b+1)) (aO h)))from wc);exact we
      .obtain rfl:b=8:=Z;rw[oE Z]at k;have g:=zr.S o aw;go_wp2_with(first|refine nJ k rfl rfl rfl ?_|refine Ea g rfl rfl rfl rfl ?_)
       exact bB (tu rfl (g.row _) rfl) ⟨rfl,r.setRow (.inr (by have:=H.out;omega)) _⟩
namespace cr
section
variable {d:Qav}{j:Region.Mode}{c:Qak}{f:Qab}{t:N}{x:af}
def hS(f:af)(i:Qav)(d:Region.Mode)(c:Qak)(h:N)(e:Qab):Nat->Array Bool->Act->World->Prop
 |0,q,b,a=>Region.ready d c q=[]/\e b a
 |Q+1,q,b,a=>(Region.ready d c q=[]->e b a)/\∀g∈Region.ready d c q,wpOp i c k4 g (λk j=>V f h j/\hS f i d c h e Q (q.setIfInBounds g true) k j) b a
theorem rQ{a:N}(g:Region.ready j c q=[])(e:f b a):∀h,hS x d j c t f h q b a
 |0=>⟨g,e⟩
 |_+1=>⟨λ_=>e,by rw[g];simp⟩
theorem Kk{h:Qaa}:∀(f:Nat)(g:Qaq)(b:Act)(a:N),hS x d j c t (λb a=>h .normal b a) f g b a->wpAny d j c h f g b a
 |0,_,_,_,e=>e
 |f+1,_,_,_,e=>⟨e.1,λl i=>nH (λk n m=>Kk f _ k n m.2) (DR (e.2 l i))⟩
theorem y'{l:Qab}(h:∀b a,f b a->l b a):∀(g:Nat)(i:Qaq)(b:Act)(a:N),hS x d j c t f g i b a->hS x d j c t l g i b a
 |0,_,_,_,e=>⟨e.1,h _ _ e.2⟩
 |g+1,_,_,_,e=>⟨λp=>h _ _ (e.1 p),λm n=>nH (λo q k=>⟨k.1,y' h g _ o q k.2⟩) (e.2 m n)⟩
theorem Xv(u:c[l]? =some za)(K:Region.noSelect c=true):∀(I:Nat)(b:Qaq)(G:Act)(m:N),Shut j c b->(∀a g,c[a]? =some g->a≠l->b.getD a true=false->(∀h∈g.after,Region.binds j h=true->h.on≠l)->za.apart c g=true)->l∈Region.ready j c b->V x t m->YieldsIf d c (V x t) za v G->hS x d j c t f I (b.setIfInBounds l true) (G.put za.dst v) m->hS x d j c t f (I+1) b G m:=by
 intro I;induction I with
 |zero=>
  intro b G m _ _ n H p o;refine⟨λw=>tf,λa q=>?_⟩;by_cases e:a=l
  .subst e;exact p.wpOp u H ⟨H,o⟩
  .exact DS
 |succ I zc=>
  intro b G m zb J n H p o;have y:=(mem_ready.1 n).1;refine⟨λw=>tf,λa q=>?_⟩;by_cases e:a=l
  .subst e;exact p.wpOp u H ⟨H,o⟩
  .refine DT λr s g z D E B=>?_;refine DU λC=>?_;refine nH (λzd ze L=>⟨L.2.1,zc (b.setIfInBounds a true) zd ze (zb.set q) C (qw n (hv e)) L.2.1 L.1 ?_⟩) B;rw[tg _ _ e];exact L.2.2
def rR(a:Region.Mode)(b:Qak):List Nat->Array Bool->Bool
 |[],_=>true
 |k::o,q=>decide (k<100)&&((Region.ready a b q).contains k&&(Region.free a b q k&&rR a b o (q.setIfInBounds k true)))
def wg:List Nat->Array Bool->Array Bool
 |[],s=>s
 |k::o,s=>wg o (s.setIfInBounds k true)
theorem Kl(A:Region.noSelect c=true){g:Qal}(zk:g.toArray=c):∀(q:af)(b:Nat)(a:Qaq)(p:Qaj)(l:Act),Shut j c a->rR j c q a=true->ba (bA x) d c (hS x d j c t f b (wg q a)) 0 (ga g q) p l t->hS x d j c t f (q.length+b) a l t
 |[],b,a,p,l,_,_,e=>by rw[dv,c'];exact e
 |k::o,b,a,p,l,u,r,e=>by simp only[rR,dB,mX]at r;obtain⟨w,i,E,r⟩:=r;refine Km λn h i z s y m=>?_;simp only[ga,n,h,m,ba,true_or,eB]at e;obtain⟨v,F,e⟩:=e;rw[cz,show o.length+1+b=(o.length+b)+1 from Z];exact Xv y A _ _ _ _ u (λI J H G B C=>vV y E I J H G B C) i (V.refl _ _) (by simpa[h9,bA]using F) (Kl A zk o b _ p _ (u.set i) r e)
theorem Kn{f:Qax}{a:N}(g:c[l]? =some f)(e:wpList d c (Nm zh) [f] b a):wpOp d c k4 l zh b a:=by unfold wpOp;simp only[g];exact JW
theorem c8{l:Nat}{e:N}(h:Nat)(g:af)(i:Region.ready j c q=h::g)(n:∀a∈h::g,wpOp d c k4 a (λp m=>V x t m/\hS x d j c t f l (q.setIfInBounds a true) p m) b e):hS x d j c t f (l+1) q b e:=⟨λk=>(by rw[i]at k;cases k),λa o=>n a (by rw[<-i];exact o)⟩
theorem gb{k:Nat}{i:Qax}{g:N}(p:c[l]? =some i)(m:∀h:Qab,(∀e a,V x t a->hS x d j c t f k (q.setIfInBounds l true) e a->h e a)->wpList d c (Nm h) [i] b g):wpOp d c k4 l (λe a=>V x t a/\hS x d j c t f k (q.setIfInBounds l true) e a) b g:=Kn p (m _ λ_ _ n o=>⟨n,o⟩)
theorem wh{f:Qaa}{a:N}(c:af)(e:Nat)(n:d.follows .mixedOrders=true)(m:Region.noSelect s.toArray=true)(g:rR .any s.toArray c (Array.replicate s.toArray.size false)=true)(h:c.length+e=s.toArray.size) (j:ba (bA x) d s.toArray (hS x d .any s.toArray a.drew (λi l=>f .normal i l) e (wg c (Array.replicate s.toArray.size false))) 0 (ga s c) [(0,a.heap.size)] b a.drew):(Code.region id s.toArray true).wp d f b a:=by refine y0 n (Kk (x:=x) (t:=a.drew) _ _ _ _ ?_);have k:=Kl m rfl c e _ _ b (D2 _) g j;rwa[h]at k
end
end cr
namespace cr
section
variable {d:Qav}{j:Region.Mode}{c:Qak}{f:Qab}{t:N}
structure bJ where
 i:Nat
 d:Tmp
 t:Qat
 pp:Qad
 v:Nat->Value
def bJ.Ok(h:Qav)(d:Qak)(f:Act)(a:bJ):Prop:=∃b,d[a.i]? =some b/\b.guard=none/\b.dst=some a.d/\(∀g e,b.op≠.select g e)/\∀c,(execOp f.eval b).run h c=.ok (.value (a.v c.heap.size)) (c.alloc (.cells a.pp a.t))
def mh(a:Tmp->Nat):List bJ->Act->Act
 |[],b=>b
 |P::o,b=>mh a o (b.put (some P.d) (P.v (a P.d)))
theorem Ko{e:Tmp->Nat}{d g:List bJ}(i:d.Perm g):(d.map (·.d)).Nodup->∀b,mh e d b=mh e g b:=by
 induction i with
 |nil=>intro _ _;rfl
 |cons f _ h=>intro a b;exact h (by simpa using(jJ.1 a).2) _
 |swap f l o=>
  intro a b;simp only[mh];rw[oG b _ _ (x:=some l.d) (y:=some f.d) (λn ak c=>by
   cases ak;injection c with c
   simp only[cj,jJ,bu,kd]at a;exact a.1.1 c.symm)]
 |trans m _ j k=>intro a b;rw[j a,k ((m.map _).nodup_iff.1 a)]
theorem Em{c e:Tmp->Nat}:∀(a:List bJ),(∀P∈a,c P.d=e P.d)->∀b,mh c a b=mh e a b
 |[],_,_=>rfl
 |P::o,d,b=>by simp only[mh];rw[d P hd,Em o λf g=>d f (hQ _ g)]
def En(c:Region.Mode)(a:Qak)(d:Nat):Nat->List Nat->Array Bool->Bool
 |0,rem,_=>rem.isEmpty
 |g+1,rem,zm=>rem==[d]||(Region.ready c a zm==rem&&rem.all λb=>En c a d g (rem.erase b) (zm.setIfInBounds b true))
def mi(c:Nat)(a:List bJ):List bJ:=a.filter λb=>b.i !=c
theorem Xw(m:Nat):∀(w:Nat)(h:List bJ)(y:Nat)(D:Qaq)(z:Act)(g:N),h.length=w->En j c m w (h.map (·.i)) D=true->(h.map (·.d)).Nodup->(h.map (·.i)).Nodup->(∀a∈h,a.Ok d c z)->V [] t g->(∀a∈h,∀B∈h,∀ze,c[a.i]? =some ze->B.d∉ze.looksAt c)->(∀(e:Tmp->Nat)(k:N),(∀a∈h,ag k (e a.d) a.t a.pp/\g.heap.size<=e a.d)->(∀a∈h,∀B∈h,a.d≠B.d->e a.d≠e B.d)->V [] g k->hS [] d j c t f y (eT D (h.map (·.i))) (mh e h z) k)->(m∈h.map (·.i)->∀(e:Tmp->Nat)(k:N),(∀a∈mi m h,ag k (e a.d) a.t a.pp/\g.heap.size<=e a.d)->(∀a∈mi m h,∀B∈mi m h,a.d≠B.d->e a.d≠e B.d)->V [] g k->hS [] d j c t f (1+y) (eT D ((mi m h).map (·.i))) (mh e (mi m h) z) k)->hS [] d j c t f (w+y) D z g:=by
 intro w;induction w with
 |zero=>intro h y D z g H _ _ _ _ _ _ I _;obtain rfl:h=[]:=mb H;rw[c'];exact I (λ_=>0) g U U (V.refl _ _)
 |succ w zy=>
  intro h y D z g H i ak zF zn zk zm I zp;simp only[En,k5,dB,iz]at i;rcases i with i|⟨i,K⟩
  .obtain⟨a,rfl⟩:∃a,h=[a]:=List.length_eq_one_iff.1 (by have:=aX List.length i;simpa using this);obtain rfl:w=0:=by simpa using H.symm
   have L:a.i=m:=rJ;have zf:mi m [a]=[]:=by simp[mi,L]
   have:=zp (by simp[L]) (λ_=>0) g (by simp[zf]) (by simp[zf]) (V.refl _ _);rw[zf]at this;exact this
  .rw[show w+1+y=(w+y)+1 from Z];refine⟨λzt=>?_,λzu Q=>?_⟩
   .rw[i]at zt;have:=aX List.length zt;simp[H]at this
   .rw[i]at Q;have K:=ke.1 K zu Q;obtain⟨a,zc,rfl⟩:=ca.1 Q;obtain⟨p,o,rfl⟩:=List.append_of_mem zc;obtain⟨ze,zA,zC,zw,zK,zJ⟩:=zn a zc;have s:(p++a::o).Perm (a::(p++o)):=List.perm_middle;have za:=((s.map (·.d)).nodup_iff.1 ak);have O:=((s.map (·.i)).nodup_iff.1 zF);simp only[cj,jJ]at za O;have zI:((p++a::o).map (·.i)).erase a.i=(p++o).map (·.i):=by have n:=O.1;rw[hf,bc,kd]at n;rw[hf,cj,List.erase_append_right _ n.1,List.erase_cons_head,hf]
    rw[zI]at K;unfold wpOp;simp only[zA];rw[ae (by simp[Region.wanted,zC])];refine .inl ?_;unfold Oper.wp;rw[zJ];simp only[Oper.upon,zw];refine⟨zk.alloc _,?_⟩;have C:∀b∈p++o,b.d≠a.d:=λb l zb=>za.1 (zb▸ti l);have zE:g.heap.size<(g.alloc (.cells a.pp a.t)).heap.size:=U;have zj:∀(T F:List bJ)(e:Tmp->Nat)(k:N),F.Perm (a::T)->(∀b∈T,b∈p++o)->(∀b∈T,ag k (e b.d) b.t b.pp/\(g.alloc (.cells a.pp a.t)).heap.size<=e b.d)->(∀b∈T,∀q∈T,b.d≠q.d->e b.d≠e q.d)->V [] (g.alloc (.cells a.pp a.t)) k->(∀b∈F,ag k (if b.d=a.d then g.heap.size else e b.d) b.t b.pp/\g.heap.size<=(if b.d=a.d then g.heap.size else e b.d))/\∀b∈F,∀q∈F,b.d≠q.d->(if b.d=a.d then g.heap.size else e b.d)≠(if q.d=a.d then g.heap.size else e q.d):=by
     intro T F e k zh G n J A;refine⟨λb l=>?_,λb l q zv zo=>?_⟩
     .have r:=bu.1 (zh.mem_iff.1 l);rcases r with rfl|r
      .simp only[eB];exact⟨(ag.aP g b.t b.pp).S A U,a' _⟩
      .simp only[M (C b (G b r))];exact⟨(n b r).1,b7 (Nat.le_of_lt zE) (n b r).2⟩
     .have r:=bu.1 (zh.mem_iff.1 l);have x:=bu.1 (zh.mem_iff.1 zv);rcases r with rfl|r
      .rcases x with rfl|x
       .exact absurd rfl zo
       .simp only[eB,M (C q (G q x))];have:=(n q x).2;omega
      .rcases x with rfl|x
       .simp only[eB,M (C b (G b r))];have:=(n b r).2;omega
       .simp only[M (C b (G b r)),M (C q (G q x))];exact J b r q x zo
    refine zy (p++o) y _ _ _ (by simp at H⊢;omega) K za.2 O.2 (λb l=>?_) (zk.alloc _) (λb l zB zH=>zm b (s.mem_iff.2 (hQ _ l)) zB (s.mem_iff.2 (hQ _ zH))) (λe k n J A=>?_) (λzs e k n J A=>?_)
    .obtain⟨W,zr,zz,zG,zl,zx⟩:=zn b (s.mem_iff.2 (hQ _ l));refine⟨W,zr,zz,zG,zl,λzD=>?_⟩;rw[vS W zl z (some a.d) _ (λE ak=>by cases ak;exact zm b (s.mem_iff.2 (hQ _ l)) a zc W zr)];exact zx zD
    .obtain⟨zd,P⟩:=zj _ _ e k s (λ_ I=>I) n J A;have u:=I (λE=>if E=a.d then g.heap.size else e E) k zd P (((V.refl [] g).alloc _).ad A);rw[Ko s ak,DW (s.map (·.i))]at u;simp only[mh,eB,cj,eT]at u;rw[Em (e:=e) (p++o) (λb l=>M (C b l))]at u;exact u
    .have L:a.i≠m:=λzb=>O.1 (zb▸zs);have zi:(mi m (p++a::o)).Perm (a::mi m (p++o)):=by have n:=s.filter (λa:bJ=>a.i !=m);rw[List.filter_cons_of_pos (by simpa using L)]at n;exact n
     have zq:∀b∈mi m (p++o),b∈p++o:=λb l=>(wi.1 l).1;obtain⟨zd,P⟩:=zj _ _ e k zi zq n J A;have u:=zp ((s.map (·.i)).mem_iff.2 (hQ _ zs)) (λE=>if E=a.d then g.heap.size else e E) k zd P (((V.refl [] g).alloc _).ad A);rw[Ko zi (((List.filter_sublist).map _).nodup ak),DW (zi.map (·.i))]at u;simp only[mh,eB,cj,eT]at u;rw[Em (e:=e) (mi m (p++o)) (λb l=>M (C b (zq b l)))]at u;exact u
def Xx(a:Qak)(b e:af):Bool:=b.all λc=>match a[c]? with
 |some f=>e.all λd=> !(f.looksAt a).contains d
 |none=>true
theorem Xy{a:List bJ}(g:Xx c (a.map (·.i)) (a.map (·.d))=true):∀e∈a,∀b∈a,∀d,c[e.i]? =some d->b.d∉d.looksAt c:=λe i b h d j=>by have f:=ke.1 g e.i (ti i);simp only[j]at f;have k:=ke.1 f b.d (ti h);simpa using k
end
end cr
section
variable {d:Qav}{c:Qak}{j:Region.Mode}{aM:bU}
def wj(c:Qav)(aM:bU)(a:Option Tmp)(v:Qas):Result Next->Prop
 |.ok (.value I) F=>(a=none\/I=v)/\aM F
 |.ok .skip F=>(a=none\/undef=v)/\aM F
 |.ok (.enter Q zc) F=>Calls c Q zc F λd b=>∃I,d=.returned I/\(a=none\/I=v)/\aM b
 |.ok (.row row zc) F=>Rows c row zc F λI b=>(a=none\/I=v)/\aM b
 |_=>False
def pq(e:Qav)(c:Qak)(aM:bU)(a:Qax)(v:Qas)(b:Act):Prop:=(Region.wanted a (yielded c b.tmps)=true/\∀d,aM d->wj e aM a.dst v ((execOp b.eval a).run e d))\/(Region.wanted a (yielded c b.tmps)=false/\undef=v)
theorem Aa{a:Option Tmp}(c:a=none\/I=v):b.put a I=b.put a v:=by rcases c with rfl|rfl<;>rfl
theorem pq.of_same{a:Qax}(f:pq d c aM a v b)(e:execOp zo.eval a=execOp b.eval a)(g:Region.wanted a (yielded c zo.tmps)=Region.wanted a (yielded c b.tmps)):pq d c aM a v zo:=by unfold pq at*;rw[e,g];exact f
theorem pq.wpOp{l:Nat}{f:Qax}{v:Qas}{e:Act}{b:N}{j:Qab}{p:Qaa}(w:c[l]? =some f)(r:pq d c aM f v e)(n:aM b)(a:∀g,aM g->j (e.put f.dst v) g):wpOp d c p l j e b:=by
 unfold Go.wpOp;simp only[w];rcases r with⟨i,s⟩|⟨i,rfl⟩
 .simp only[i,eB];refine .inl ?_;have:=s b n;unfold Oper.wp;generalize (execOp e.eval f).run d b=t at*;cases t with
  |ok o g=>
   cases o<;>simp only[wj]at this<;>simp only[Oper.upon]
   case value m=>rw[Aa this.1];exact a _ this.2
   case skip=>rw[Aa this.1];exact a _ this.2
   case enter z zc=>exact this.mono λx q ⟨m,u,k,h⟩=>by subst u;show j _ _;rw[Aa k];exact a _ h
   case row row zc=>exact this.mono λm q ⟨k,h⟩=>by rw[Aa k];exact a _ h
  |halt y g=>simp only[wj]at this
 .simp only[i,oF,k2];exact a _ n
def na(d:Qav)(a:Qak)(aM:bU)(c:Act->Prop):List Oper->Act->Prop
 |[],b=>c b
 |e::m,b=>∃v,pq d a aM e v b/\na d a aM c m (b.put e.dst v)
def wk(h:Qav)(e:Region.Mode)(a:Qak)(aM:bU)(g:Nat)(f:Array Bool->Act->Prop):Nat->Array Bool->Act->Prop
 |0,q,b=>f q b
 |Q+1,q,b=>Region.ready e a q≠[]/\∀c∈Region.ready e a q,c<g/\∃d v,a[c]? =some d/\pq h a aM d v b/\wk h e a aM g f Q (q.setIfInBounds c true) (b.put d.dst v)
theorem Kp{p m:Nat}{l:Array Bool->Act->Prop}{k:Qaa}(n:∀a f b,aM b->l a f->wpAny d j c k m a f b):∀(h:Nat)(a:Qaq)(f:Act)(b:N),aM b->wk d j c aM p l h a f->wpAny d j c k (h+m) a f b
 |0,a,f,b,i,g=>by rw[c'];exact n _ _ _ i g
 |h+1,a,f,b,i,g=>by rw[Nat.succ_add];refine⟨λw=>absurd w g.1,λq t=>?_⟩;obtain⟨_,e,v,u,r,s⟩:=g.2 q t;exact r.wpOp u i λx o=>Kp n h _ _ x o s
theorem Xz(B:c[l]? =some za)(G:Region.noSelect c=true) (zk:l<g) (H:∀b,HeadInv j c g b->b.getD l true=false->∀J,g<=J->J∉Region.ready j c b) (zi:∀b e,zm b e->∀a∈Region.ready j c b,g<=a):∀(t:Nat)(b:Qaq)(e:Act),HeadInv j c g b->(∀a p,c[a]? =some p->a≠l->b.getD a true=false->(∀h∈p.after,Region.binds j h=true->h.on≠l)->za.apart c p=true)->l∈Region.ready j c b->pq d c aM za v e->wk d j c aM g zm t (b.setIfInBounds l true) (e.put za.dst v)->wk d j c aM g zm (t+1) b e:=by
 intro t;induction t with
 |zero=>
  intro b e gN _ n w q;have y:=(mem_ready.1 n).1;refine⟨List.ne_nil_of_mem n,λa m=>?_⟩;have u:a<g:=Nat.lt_of_not_le λz=>H b gN y a z m;refine⟨u,?_⟩;by_cases i:a=l
  .subst i;exact⟨za,v,B,w,q⟩
  .exact absurd (zi _ _ q a (qw m i)) Z
 |succ t zb=>
  intro b e gN E n w q;have y:=(mem_ready.1 n).1;refine⟨List.ne_nil_of_mem n,λa m=>?_⟩;have u:a<g:=Nat.lt_of_not_le λz=>H b gN y a z m;refine⟨u,?_⟩;by_cases i:a=l
  .subst i;exact⟨za,v,B,w,q⟩
  .obtain⟨_,p,o,x,L,ze⟩:=q.2 a (qw m i);obtain⟨s,f,K,D⟩:=mem_ready.1 m;obtain rfl:f=p:=mc (K.symm.trans x);have zc:=E a f x i s λh Q F W=>by exact Kq
   obtain⟨r,zf,I⟩:=Oper.apart_spec zc;refine⟨f,o,x,L.of_same (vS f (λA C=>tl G a f A C x) e za.dst v r).symm (wanted_put f e za.dst v r).symm,?_⟩;refine zb (b.setIfInBounds a true) (e.put f.dst o) (gN.set m u) (λk ok zh zj O zd=>E k ok zh zj ?_ zd) (qw n (hv i)) (w.of_same (vS za (λA C=>tl G l za A C B) e f.dst o I) (wanted_put za e f.dst o I)) ?_
   .exact Kr
   .rw[tg _ _ i,<-oG e v o zf];exact ze
theorem Ks{f r:Nat}{t:Act->Prop}(p:Region.noSelect c=true)(s:∀o,o<f->∀a,HeadInv j c f a->a.getD o true=false->∀w,f<=w->w∉Region.ready j c a):∀(e:Qal)(b:Nat)(a:Qaq)(h:Act),(∀g,g<e.length->e[g]? =c[b+g]?)->b+e.length=f->HeadInv j c f a->Region.lexHead j c r e.length b a=true->na d c aM t e h->wk d j c aM f (λx u=>Region.seqB j c r f x=true/\t u) e.length a h
 |[],b,a,h,_,m,_,k,l=>by
  obtain rfl:b=f:=by simpa using m
  exact⟨k,l⟩
 |z::e,b,a,h,q,m,gN,k,l=>by
  have y:c[b]? =some z:=by simpa using(q 0 U).symm
  simp only[cz,Region.lexHead,dB]at k;simp only[cz]at m;obtain⟨⟨i,E⟩,A⟩:=k;have n:b∈Region.ready j c a:=rJ;obtain⟨v,B,C⟩:=l;refine Xz y p Z (s b Z) (λx u D=>seqB_ready D.1) e.length a h gN (vV y E) n B (Ks p s e (b+1) _ _ (λg F=>?_) Z (gN.set n Z) A C);have:=q (g+1) aw;simpa[gk,Ab 1 g]using this
theorem Kt:∀(d b:Nat)(e:Qaq),Region.lexFrom j c d b e=true->Region.lexHead j c 0 d b e=true
 |0,_,_,a=>a
 |d+1,b,_,a=>by simp only[Region.lexFrom,Region.lexHead,dB]at a⊢;exact⟨a.1,Kt d (b+1) _ a.2⟩
theorem Ac{c:N}(aM:bU)(o:d.follows .mixedOrders=true)(g:Region.lexB .any s.toArray=true)(q:aM c.drew) (m:na d s.toArray aM (λi=>∀a,aM a->f .normal i a) s b):(Code.region id s.toArray true).wp d f b c:=by simp only[Region.lexB,dB]at g;obtain⟨n,p⟩:=g;have y:HeadInv .any s.toArray s.length (Array.replicate s.toArray.size false):=⟨U,λr D _ e=>(by rw[getD_replicate_false]at e;cases e),λu x k=>by simp at k;omega⟩;have w:=Ks (j:=.any) (r:=0) n (λA B j gN C u x z=>by obtain⟨_,E,t,_⟩:=mem_ready.1 z;have:=(ht.1 t).1;simp at this;omega) s 0 _ b (λr _=>U) U y (Kt _ _ _ (by simpa using p)) m;refine y0 o ?_;have:=Kp (k:=f) (m:=0) (λj i a l h=>⟨by simpa[Region.seqB]using h.1,h.2 a l⟩) _ _ _ _ q w;simpa using this
end
section
variable {d:Qav}{c:Qak}{aM:bU}{f:Act->Prop}{m:Qal}{e:Qax}{b:Act}
theorem XA(g:Region.wanted e (yielded c b.tmps)=false)(a:na d c aM f m (b.put e.dst undef)):na d c aM f (e::m) b:=⟨undef,.inr ⟨g,rfl⟩,a⟩
theorem XB(v:Qas)(l:(match e.dst with|some C=>decide (C<b.tmps.size)|none=>true)=true)(t:cB e c b) (u:∀j,aM j->∀p:Qab,(∀i,aM i->p (b.put e.dst v) i)->e.wp d b j p λ_ _ _=>False) (a:na d c aM f m (b.put e.dst v)):na d c aM f (e::m) b:=by
 refine Ku λh=>?_;refine⟨v,.inl ⟨t,λj y=>?_⟩,a⟩;have:=u j y (λx i=>x=b.put e.dst v/\aM i) (λi a=>⟨rfl,a⟩);unfold Oper.wp at this;generalize (execOp b.eval e).run d j=w at*;cases w with
 |ok o i=>exact Kv
 |halt k i=>cases k<;>simp only[Oper.upon]at this
theorem Kw{j:Nat}{h n:Qat}{g:Qad}{i:TypeDesc}(k:Qau)(q:cB e c b)(t:e.op=.load h k)(s:b.eval k=ab j)(o:∀a,aM a->ag a j n g) (u:d.underlying h=some i) (ak:(match i with|.struct _|.array _ _=>true|_=>false)=true) (r:(d.info? h).map (·.size)=some g.size) (p:na d c aM f m (b.put e.dst (g))):na d c aM f (e::m) b:=by refine⟨g,.inl ⟨q,λa l=>?_⟩,p⟩;unfold execOp;simp only[t,s,Instr.loadAt,Instr.sureAddr,eS,iW,gl,tn a j n h g (0,0) i (o a l) u ak r];exact⟨.inr rfl,l⟩
theorem tw(i:∀a,aM a->Calls d Q zc a λg h=>g=.returned v/\aM h)(o:cB e c b)(n:∀a,(execOp b.eval e).run d a=.ok (.enter Q zc) a) (l:na d c aM f m (b.put e.dst v)):na d c aM f (e::m) b:=⟨v,.inl ⟨o,λa k=>by rw[n a];exact(i a k).mono λg h ⟨j,p⟩=>⟨v,j,.inr rfl,p⟩⟩,l⟩
theorem rS(a:f b):na d c aM f [] b:=a
end
def dU(a b:N):Prop:=V [] a b
section
variable {a O zf:N}
theorem dU.refl:dU a a.drew:=(V.refl [] a).drew
theorem dU.S(b:dU a O):V [] a O:=b
theorem dU.ad(b:dU a O)(c:V [] O zf):dU a zf:=V.ad b c
theorem dU.au{c:Qay}(d:dU a O)(b:a.cell? c=some v):O.cell? c=some v:=(V.au d (f' _ _ b) U).trans b
theorem dU.ai{h:Nat}(b:dU a O)(c:ag a h p i):ag O h p i:=c.S b U
theorem dU.reads{c:Qae}{b:Nat}(d:dU a O)(e:aF a c b g K):aF O c b g K:=e.ad d
theorem Calls.Ad(g:dU a O)(e:Calls d Q zc O λb c=>b=.returned v/\V [] O c):Calls d Q zc O λb c=>b=.returned v/\dU a c:=e.mono λ_ _ ⟨f,h⟩=>⟨f,g.ad h⟩
theorem Calls.Kx(g:dU a O)(e:Calls d Q zc O λb c=>b=.returned v/\O=c):Calls d Q zc O λb c=>b=.returned v/\dU a c:=e.mono λ_ _ ⟨f,h⟩=>⟨f,h▸g⟩
end
def lA(d:Nat)(b c:aj):aj:=λa=>if a<d then b a else c a
theorem XC{b:Qaw}{c a:aj}:an b g (lA 0 c a)=an b g a:=jr (λd _=>by simp[lA])
theorem XD{a:Qaw}{b c:aj}(f:g<=P):an a g (lA P b c)=an a g b:=jr (λe d=>by unfold lA;rw[ae Z])
theorem XE{c:Qaw}{d f:aj}{v:Int}(h:P<g)(i:d P=v):(an c g (lA P d f)).setIfInBounds P (.int c v)=an c g (lA (P+1) d f):=by
 rw[oD v h];apply jr;intro a _;unfold aV lA;by_cases b:a=P
 .subst b;simp[i]
 .exact JJ
theorem XF{b a:aj}:lA P b a P=a P:=by simp[lA]
def rT(a:Nat):Int:=T (a/8) (a%8)*gq (a/8)
theorem Eo(b a:Nat)(c:a<8):rT (b*8+a)=T b a*gq b:=by unfold rT;exact Ka
theorem XG:∀a:Fin 8,Int.tdiv 739840 (Nm a.val)=gq a.val/\0<Nm a.val/\Nm a.val<=578/\0<=gq a.val/\gq a.val<=2312:=bm
theorem XH(v:Int):cl v=if 2097152<(if v< -2097152 then -2097152 else v)then 2097152 else if v< -2097152 then -2097152 else v:=by unfold cl;split<;>split<;>omega
theorem XI(b:Nat)(c:b<8)(a:N):(Instr.index 343 (an .i64 8 h) (X b)).run prog a=.ok (X (h b)) a:=yS a _ _ _ _ _ underlying343 underlying3 qG _ _ c
theorem XJ(e:aj)(zO:tp 64 e):Calls prog 190 #[an .i64 64 e] a λzf z7=>zf=.returned (an .i64 64 (gN e))/\V [] a z7:=by
 generalize zJ:an .i64 64 e=zab;have zS:=Y zJ;clear zJ;go_in;go_wp2_with fail
 refine(J9 _).mono ?_;rintro zf h ⟨rfl,O⟩;obtain⟨zx,zF,za,zb⟩:V [] a h/\a.heap.size+2<=h.heap.size/\ag h a.heap.size 230 (an .i64 64 e)/\ag h (a.heap.size+1) 230 (an .i64 64 λ_=>0):=by
  refine⟨(((V.refl _ _).alloc _).alloc _).ad O,?_,?_,?_⟩
  .have:=O.size;simpa using this
  .rw[zS.out];exact((ag.aP _ _ _).alloc _).S O U
  .exact(ag.y3 a 230 _ (an .i64 64 λ_=>0)).S O U
 refine Eg λt p G=>?_;clear O;generalize a.heap.size+2=zah at zF p;generalize a.heap.size+1=zC at zb t p;generalize zA:a.heap.size=z8 at za G t p;have H:=Y zA;clear zA;go_wp2_with(first|refine Eb (h:=λ_=>0) (n:=h.heap.size) (ag.aP _ _ _) rfl rfl rfl rfl ?_|(go_at_call 229;refine(J' _).mono ?_;rintro zf I ⟨rfl,L⟩))
 obtain⟨zu,zo,zR,za,zb⟩:V [] a I/\ag I h.heap.size 344 (an .i64 64 (lA (8*0) rT lz))/\h.heap.size<I.heap.size/\ag I z8 230 (an .i64 64 e)/\ag I zC 230 (an .i64 64 λ_=>0):=by
  have zp:=((V.refl [] h).alloc (Obj.cells (an .i64 64 λ_=>0) 344)).setRow (.inr (a' _)) (an .i64 64 lz);refine⟨(zx.ad zp).ad L,?_,?_,(za.S zp U).S L U,(zb.S zp U).S L U⟩
  .rw[XC];exact ag.S (ag.row (ag.aP _ _ _) _) L U
  .have:=L.size;simp at this;omega
 have zX:zC<h.heap.size:=Z;clear L zF zx p;generalize h.heap.size=g at zo zR zX;go_loopw [19] (λf wr=>∃b:Nat,b<=8/\f=X b/\V [] a wr/\V [g] I wr/\ag wr g 344 (an .i64 64 (lA (8*b) rT lz))) (λf _=>8-(intOf f).toNat)
 .exact⟨0,Z,rfl,zu,V.refl _ _,zo⟩
 .obtain⟨b,zH,rfl,r,o,k⟩:=hrel;by_cases F:b<8
  .have ak:decide ((b:Int)<8)=true:=aw;have zag:=XI Nm b F;obtain⟨A,rfl⟩:∃A,A=wr:=⟨_,rfl⟩;go_wp2_with fail
   go_loopw [23] (λf wr=>∃d:Nat,d<=8/\f=X d/\V [] a wr/\V [g] I wr/\ag wr g 344 (an .i64 64 (lA (8*b+d) rT lz))) (λf _=>8-(intOf f).toNat)
   .exact wb
   .obtain⟨d,zI,rfl,C,m,s⟩:=hrel;by_cases i:d<8
    .have zy:decide ((d:Int)<8)=true:=aw;obtain⟨zW,zU,z1,zN,z'⟩:=XG ⟨b,F⟩;simp only at zW zU z1 zN z';have Q:=s.au (b*8+d);rw[show b*8+d=8*b+d from Z,dw Z,XF,show 8*b+d=b*8+d from Z,Ec b d i]at Q;have D:=s.eA (b*8+d);have zae:=rP F i;have zaf:(Nm b==0)=false:=aw;go_wp2_with fail
     go_region;all_goals go_wp2_with fail
     have zB:b*8+d=8*b+d:=Z;have y:=C.setCell (d:=⟨g,b*8+d,none⟩) (.inr (by have:=H.out;show _<=g;omega)) (X (T b d*gq b));have x:=m.setCell (d:=⟨g,b*8+d,none⟩) (.inl U) (X (T b d*gq b));have q:ag (wr.setCell ⟨g,b*8+d,none⟩ (X (T b d*gq b))) g 344 (an .i64 64 (lA (8*b+(d+1)) rT lz)):=by have:=s.ma (8*b+d) (X (T b d*gq b));rw[XE Z (by rw[<-zB,Eo b d i])]at this;rw[zB];exact this
     exact⟨⟨d+1,Z,a8,y.drew,x.drew,q.drew⟩,bF⟩
    .obtain rfl:d=8:=Z;have q:=Y (show ag wr g 344 (an .i64 64 (lA (8*(b+1)) rT lz))from wc);exact we
  .obtain rfl:b=8:=Z;rw[XD Z]at k;have zw:=za.S o aw;have zG:=zb.S o aw;clear za zb zo o zu;go_wp2_with fail
   refine at_world (c:=λze=>V [] wr ze/\ag ze wr.heap.size 347 (an .i64 64 (c3 0 (jM e)))) ⟨(V.refl _ _).alloc _,Ek⟩ ?_;rintro ze ⟨P,zl⟩;have zP:=r.ad P;have zV:=k.lt;have zi:=k.S P U;have zv:=zw.S P U;have zt:=zG.S P U;clear k zw zG P r;generalize wr.heap.size=l at zl zV;go_loopw [38] (λf wr=>∃b:Nat,b<=8/\f=X b/\V [] a wr/\V [l] ze wr/\ag wr l 347 (an .i64 64 (c3 (8*b) (jM e)))) (λf _=>8-(intOf f).toNat)
   .exact⟨0,Z,rfl,zP,V.refl _ _,zl⟩
   .obtain⟨b,zH,rfl,r,o,k⟩:=hrel;by_cases F:b<8
    .have ak:decide ((b:Int)<8)=true:=aw;obtain⟨A,rfl⟩:∃A,A=wr:=⟨_,rfl⟩;go_wp2_with fail
     go_loopw [41] (λf wr=>∃d:Nat,d<=8/\f=X d/\V [] a wr/\V [l] ze wr/\ag wr l 347 (an .i64 64 (c3 (8*b+d) (jM e)))) (λf _=>8-(intOf f).toNat)
     .exact wb
     .obtain⟨d,zI,rfl,C,m,s⟩:=hrel;by_cases i:d<8
      .have zy:decide ((d:Int)<8)=true:=aw;obtain⟨J,rfl⟩:∃J,J=wr:=⟨_,rfl⟩;go_wp2_with fail
       go_loopw [10,44] (λzm f wr=>∃c:Nat,c<=8/\f=X c/\zm=X (ef (λc=>T c d*gq c*cl (e (8*b+c))) c)/\V [] J wr) (λ_ f _=>8-(intOf f).toNat)
       .exact y9
       .obtain⟨c,z,rfl,rfl,j⟩:=hrel;by_cases zn:c<8
        .have zZ:decide ((c:Int)<8)=true:=aw;have Q:=((zi.S m aw).S j U).au (c*8+d);rw[dw Z,Eo c d i]at Q;have zr:=((zv.S m aw).S j U).au (8*b+c);rw[dw Z]at zr;have zh:=Y (y7 (b:=λc=>T c d*gq c*cl (e (8*b+c))) zn (G:=(18496*2097152)) Z (λc z=>oI (rP z i) (Ed _)));have zac:=zO (8*b+c) Z;have zz:=XH (e (8*b+c));have zaa:=Y zz;clear zz;go_wp2_with fail
         go_region;all_goals go_wp2_with fail
         rw[<-zaa.out];exact Ky
        .obtain rfl:c=8:=Z;have zj:-((18496*2097152)*8)<=ef (λc=>T c d*gq c*cl (e (8*b+c))) 8/\ef (λc=>T c d*gq c*cl (e (8*b+c))) 8<=(18496*2097152)*8:=po 8 (λc z=>oI (rP z i) (Ed _));have K:=s.S j U;have zd:=Xo e b d i;have B:=Y zd;clear zd;generalize ef (λc=>T c d*gq c*cl (e (8*b+c))) 8=n at zj B;refine Kj λE D y x=>?_;have q:=Y (show ag (wr.setCell ⟨l,8*b+d,none⟩ (X n)) l 347 (an .i64 64 (c3 (8*b+d+1) (jM e)))from Ei);exact Ej
      .obtain rfl:d=8:=Z;have q:=Y (show ag wr l 347 (an .i64 64 (c3 (8*(b+1)) (jM e)))from wc);exact we
    .obtain rfl:b=8:=Z;rw[oE Z]at k;have zk:=zi.S o aw;have zq:=zt.S o aw;clear o zv zt zi zl;go_wp2_with fail
     refine at_world (c:=λzc=>V [] wr zc/\ag zc wr.heap.size 230 (an .i64 64 (c3 0 (gN e)))) ⟨(V.refl _ _).alloc _,Ek⟩ ?_;rintro zc ⟨W,zD⟩;have zL:=r.ad W;have zM:=k.lt;have zY:=k.S W U;have zk:=zk.S W U;have zq:=zq.S W U;clear k W r;generalize wr.heap.size=u at zD zM;go_loopw [72] (λf wr=>∃b:Nat,b<=8/\f=X b/\V [] a wr/\V [u] zc wr/\ag wr u 230 (an .i64 64 (c3 (8*b) (gN e)))) (λf _=>8-(intOf f).toNat)
     .exact⟨0,Z,rfl,zL,V.refl _ _,zD⟩
     .obtain⟨b,zH,rfl,r,o,k⟩:=hrel;by_cases F:b<8
      .have ak:decide ((b:Int)<8)=true:=aw;obtain⟨A,rfl⟩:∃A,A=wr:=⟨_,rfl⟩;go_wp2_with fail
       go_loopw [75] (λf wr=>∃d:Nat,d<=8/\f=X d/\V [] a wr/\V [u] zc wr/\ag wr u 230 (an .i64 64 (c3 (8*b+d) (gN e)))) (λf _=>8-(intOf f).toNat)
       .exact wb
       .obtain⟨d,zI,rfl,C,m,s⟩:=hrel;by_cases i:d<8
        .have zy:decide ((d:Int)<8)=true:=aw;obtain⟨J,rfl⟩:∃J,J=wr:=⟨_,rfl⟩;go_wp2_with fail
         go_loopw [15,78] (λzm f wr=>∃c:Nat,c<=8/\f=X c/\zm=X (ef (λc=>T c b*gq c*jM e (8*c+d)) c)/\V [] J wr) (λ_ f _=>8-(intOf f).toNat)
         .exact y9
         .obtain⟨c,z,rfl,rfl,j⟩:=hrel;by_cases zn:c<8
          .have zZ:decide ((c:Int)<8)=true:=aw;have Q:=((zk.S m aw).S j U).au (c*8+b);rw[dw Z,Eo c b F]at Q;have zr:=((zY.S m aw).S j U).au (8*c+d);rw[dw Z]at zr;have zh:=Y (y7 (b:=λc=>T c b*gq c*jM e (8*c+d)) zn (G:=(18496*310311387136)) Z (λc z=>oI (rP z F) (Ee e _ Z)));exact Eh
          .obtain rfl:c=8:=Z;have zj:-((18496*310311387136)*8)<=ef (λc=>T c b*gq c*jM e (8*c+d)) 8/\ef (λc=>T c b*gq c*jM e (8*c+d)) 8<=(18496*310311387136)*8:=po 8 (λc z=>oI (rP z F) (Ee e _ Z));have K:=s.S j U;have zd:=Xp e b d i;have B:=Y zd;clear zd;generalize ef (λc=>T c b*gq c*jM e (8*c+d)) 8=n at zj B;refine El λE D=>?_;have zE:gN e (8*b+d)=qE n:=by unfold gN;rw[B.out]
           have z6:=Y zE;clear zE;have y:=Y ((C.ad j).setCell (d:=⟨u,8*b+d,none⟩) (.inr (by have:=H.out;show _<=u;omega)) (X (qE n)));have x:=Y ((m.ad j).setCell (d:=⟨u,8*b+d,none⟩) (.inl U) (X (qE n)));have q:=Y (show ag (wr.setCell ⟨u,8*b+d,none⟩ (X (qE n))) u 230 (an .i64 64 (c3 (8*b+d+1) (gN e)))from by have:=K.ma (8*b+d) (X (qE n));rwa[ph Z z6.out]at this);go_wp2_with fail
           refine(Xm _ n Z).mono ?_;rintro zf zad ⟨rfl,rfl⟩;go_wp2_with fail
           go_roundw
           .exact⟨_,_,_,_,_,_,_,_,_,_,_,_,_,_,_,_,_,_,_,_,_,_,_,_,_,_,_,_,_,_,_,_,⟨d+1,Z,a8,y.out,x.out,q.out⟩,rfl⟩
           .simp[intOf];omega
        .obtain rfl:d=8:=Z;have q:=Y (show ag wr u 230 (an .i64 64 (c3 (8*(b+1)) (gN e)))from wc);exact we
      .obtain rfl:b=8:=Z;rw[oE Z]at k;have zs:=zq.S o aw;go_wp2_with(first|refine nJ k rfl rfl rfl ?_|refine Ea zs rfl rfl rfl rfl ?_)
       exact bB (tr rfl (zs.row _) rfl) ⟨rfl,r.setRow (.inr (by have:=H.out;omega)) _⟩
def tx(a:Int):Int:=max a (-a)
theorem XK{a:Int}(b:-G<=A/\A<=G):-(tx a*G)<=a*A/\a*A<=tx a*G:=oI (by unfold tx;omega) b
theorem Ep(c v:aj)(d:Int):∀b,(∀a,a<b->-d<=v a/\v a<=d)->-(ef (λa=>tx (c a)) b*d)<=ef (λa=>c a*v a) b/\ef (λa=>c a*v a) b<=ef (λa=>tx (c a)) b*d
 |0,_=>by simp[ef]
 |b+1,e=>by have f:=Ep c v d b (λa h=>e a Z);have g:=XK (a:=c b) (e b Z);simp only[ef,Int.add_mul];omega
def iE(b:Nat):Int:=ef (λa=>tx (T b a)) 8
theorem Kz:∀a:Fin 8,0<=iE a.val/\iE a.val<=64:=bm
theorem XL{b:aj}(f:nK b G)(c a:Nat)(h:c<8)(e:a<8):-(iE a*G)<=h' b (8*c+a)/\h' b (8*c+a)<=iE a*G:=by rw[Kc b c a e];exact Ep (λd=>T a d) _ G 8 (λd g=>f _ Z)
theorem KA{c:aj}(f:nK c G)(b a:Nat)(e:a<8):-(iE b*(iE a*G))<=aO c (8*b+a)/\aO c (8*b+a)<=iE b*(iE a*G):=by rw[Kd c b a e];exact Ep (λd=>T b d) _ (iE a*G) 8 (λd g=>XL f d a g e)
theorem KB(a:Nat):8*(a/8)+a%8=a:=Z
theorem XM{c:aj}(g:nK c G)(e:0<=G):nK (aO c) (4096*G):=by intro a i;have:=KA g (a/8) (a%8) Z;rw[KB]at this;have d:=Kz ⟨a/8,Z⟩;have b:=Kz ⟨a%8,Z⟩;simp only at d b;have h:iE (a%8)*G<=64*G:=ty b.2 e;have f:0<=iE (a%8)*G:=qF b.1 e;have j:iE (a/8)*(iE (a%8)*G)<=64*(64*G):=wm d.2 h f Z;omega
def nL(b:aj)(a:Nat):Int:=b (8*(a%8)+a/8)
theorem XN:dJ 24 (.agg (an .u8 64 λ_=>0)):=dM
theorem KC:(prog.info? 24).map (·.size)=some 64:=ar
theorem Ae:(prog.info? 24).map (·.size)=some (an .u8 64 h).size:=by rw[gO];exact KC
theorem XO:(sizeOf 5).run prog a=.ok 1 a:=ar
theorem XP(b:Nat)(c:b<64)(a:N):(Instr.index 24 (an .u8 64 h) (X b)).run prog a=.ok (.int .u8 (h b)) a:=yS a _ _ _ _ _ underlying24 underlying5 XO _ _ c
section
variable {c:Qak}{m:Qal}{e:Qax}{b:Act}{a:N}{f:Qaa}{z zb:Qau}
theorem Er(i:e.guard=none)(j:e.op=.alloc 24)(h:∀d g,ag g d 24 (an .u8 64 λ_=>0)->V [] a g->a.heap.size<=d->wpList prog c f m (b.put e.dst (ab d)) g):wpList prog c f (e::m) b a:=cw _ _ i j XN rfl h
theorem Af{h:aj}(j:e.guard=none)(l:e.op=.box 24 z)(k:b.eval z=(an .u8 64 h))(i:∀d g,ag g d 24 (an .u8 64 h)->V [] a g->a.heap.size<=d->wpList prog c f m (b.put e.dst (ab d)) g):wpList prog c f (e::m) b a:=cx _ _ j l k rfl i
theorem KD{d:Nat}{h:aj}(i:ag a d 24 (an .u8 64 h))(k:e.guard=none)(o:e.op=.store 24 z zb)(l:b.eval z=ab d)(n:b.eval zb=(an .u8 64 L)) (j:∀g,ag g d 24 (an .u8 64 L)->V [d] a g->g.heap.size=a.heap.size->wpList prog c f m (b.put e.dst undef) g):wpList prog c f (e::m) b a:=vR _ i k o l n (Ae _) tq e6 j
theorem Ag{d:Nat}{g:aj}(h:ag a d 24 (an .u8 64 g))(j:e.guard=none)(l:e.op=.load 24 z)(k:b.eval z=ab d) (i:wpList prog c f m (b.put e.dst (an .u8 64 g)) a):wpList prog c f (e::m) b a:=rN j 24 z l d k 24 _ (0,0) _ h underlying24 rfl (Ae _) i
theorem KE{b:Nat}{d:aj}{e:Tmp}(g:zd.results=#[.cell e 24]){c:Qad}(h:ag a b 24 (an .u8 64 d))(f:c.getD e undef=ab b):(results zd c).run prog a=.ok (an .u8 64 d) a:=v' g c a b 24 _ (0,0) _ f h underlying24 rfl (Ae _)
end
def hT(b:aj):Prop:=∀a,a<64->0<=b a/\b a<=255
def pr:aj:=λ_=>16
theorem KF:Calls prog 91 #[] a λq A=>q=.returned (an .u8 64 pr)/\V [] a A:=by
 go_in;have y:True:=trivial;go_wp2_with(first|(clear y;refine Er rfl rfl ?_;intro E F j l K)|(refine Er rfl rfl ?_;intro i x p f I))
 have u:=l.ad f;have t:=j.S f U;have B:=j.lt;have J:=l.size;go_loopw [3] (λd wr=>∃b:Nat,b<=64/\d=X b/\V [] a wr/\V [i] x wr/\ag wr i 24 (an .u8 64 (c3 b pr))) (λd _=>64-(intOf d).toNat)
 .exact⟨0,Z,rfl,u,V.refl _ _,by rw[rG];exact p⟩
 .obtain⟨b,G,rfl,k,g,c⟩:=hrel;by_cases h:b<64
  .have ak:decide ((b:Int)<64)=true:=aw;have m:=c.au b;rw[dw h]at m;have C:=c.eA b;obtain⟨e,aU⟩:=c.hc b (.int .u8 16);rw[ph (h:=pr) (v:=16) h rfl]at e;have o:=Y (k.own aU Z);have r:=Y (g.same aU);have w:=Y e;clear e aU;go_wp2_with fail
   exact⟨⟨b+1,Z,a8,o.out,r.out,w.out⟩,bF⟩
  .obtain rfl:b=64:=Z;rw[oE Z]at c;have z:=t.S g aw;go_wp2_with(first|refine Ag c rfl rfl rfl ?_|(refine KD z rfl rfl rfl rfl ?_;intro D n s H))
   exact bB (KE rfl n rfl) ⟨rfl,k.own s Z⟩
def gP(c:aj)(b:Nat):Bool:=(List.range b).all λa=>decide (8<=c a)
theorem Es{b:aj}:gP b g=true↔∀a,a<g->8<=b a:=by simp[gP]
theorem XQ{a:aj}(b:gP a g=true)(d:8<=a g):gP a (g+1)=true:=by rw[Es]at b⊢;exact J7
theorem XR{a:aj}(b:D<g)(d:a D<8):gP a g=false:=by rw[yY];intro c;have:=Es.1 c D b;omega
theorem KG(a:u:=by
 by_cases l:c b<8
 .go_wp2;go_ret;exact⟨aX Ending.returned (aX Value.bool (XR d l).symm),g⟩
 .go_wp2;exact⟨⟨b+1,Z,XQ e.out Z,a8⟩,bF⟩):u:=a
theorem KH(a:u:=by obtain rfl:b=64:=Z;go_wp2;go_ret;exact⟨aX Ending.returned (aX Value.bool e.out.symm),g⟩):u:=a
theorem KI(c:aj):Calls prog 74 #[an .u8 64 c] a λj m=>j=.returned (.bool (gP c 64))/\V [] a m:=by
 go_in;go_wp2_with(refine Af (h:=c) rfl rfl rfl ?_;intro n o k g q)
 go_loop [3] (λf=>∃b:Nat,b<=64/\gP c b=true/\f=X b) (λf=>64-(intOf f).toNat)
 .exact⟨0,Z,rfl,rfl⟩
 .obtain⟨b,p,h,rfl⟩:=hrel;have e:=Y h;clear h;by_cases d:b<64
  .have ak:decide ((b:Int)<64)=true:=aw;have i:=k.au b;rw[dw d]at i;exact KG
  .exact KH
theorem wo(c:aj):Calls prog 77 #[an .u8 64 c] a λi k=>i=.returned (.bool (gP c 64))/\V [] a k:=by
 go_in;go_wp2_with(first|(refine Af (h:=c) rfl rfl rfl ?_;intro m n j g q)|refine Ag j rfl rfl rfl ?_)
 go_loop [6] (λf=>∃b:Nat,b<=64/\gP c b=true/\f=X b) (λf=>64-(intOf f).toNat)
 .exact⟨0,Z,rfl,rfl⟩
 .obtain⟨b,p,h,rfl⟩:=hrel;have e:=Y h;clear h;by_cases d:b<64
  .have ak:decide ((b:Int)<64)=true:=aw;have o:=XP c b d;exact KG
  .exact KH
def ps(a:Int):Bool:=decide (1<=a/\a<=31)
theorem rU{a:Int}:ps a=true↔1<=a/\a<=31:=by simp[ps]
theorem Et(b:Int):Calls prog 224 #[X b] a λf j=>f=.returned (.bool (ps b))/\a=j:=by
 have d:ps b=decide (1<=b/\b<=31):=rfl;have c:=Y d;clear d;by_cases g:1<=b
 .have h:decide (1<=b)=true:=iD;by_cases i:b<=31
  .have e:decide (b<=31)=true:=iB;go_in;go_wp2;go_ret;exact⟨by rw[c.out];simp[g,i],rfl⟩
  .have e:decide (b<=31)=false:=iB;go_in;go_wp2;go_ret;exact⟨by rw[c.out];simp[i],rfl⟩
 .have h:decide (1<=b)=false:=iD;go_in;go_wp2;go_ret;exact⟨by rw[c.out,e7 Z];rfl,rfl⟩
def eD(b:aj)(a:Int):Bool:=gP b 64&&ps a
theorem XS:(sizeOf 3).run prog a=.ok 1 a:=ar
theorem KJ(b:Nat)(d:b<8):Calls prog 249 #[X b] a λc f=>c=.returned (X (Nm b))/\V [] a f:=by
 have i:decide ((b:Int)<0)=false:=U;have j:decide (8<=(b:Int))=false:=aw;have h:=λa=>yS (d:=prog) a 343 3 .i64 8 Nm underlying343 underlying3 XS .i64 b d;go_in;go_wp2_with fail
 refine(J' _).mono ?_;rintro c g ⟨rfl,e⟩;go_wp2_with fail
 go_ret;exact⟨rfl,e⟩
def Ah(a b:Int):Int:=if a*b=262144 then 32 else if a*b=295936 then 34 else if a*b=163840 then 25 else if a*b=334084 then 36 else if a*b=184960 then 27 else 20
def iF(a:Nat):Int:=Ah (Nm (a/8)) (Nm (a%8))
theorem XT:∀a:Fin 64,20<=iF a.val/\iF a.val<=36:=bm
theorem Ai(a:k<64):20<=iF k/\iF k<=36:=XT ⟨k,a⟩
theorem KK:∀a:Fin 8,Nm a.val=512\/Nm a.val=578\/Nm a.val=320:=bm
theorem XU(f h e g:Int)(i:N):(binOp .eql 175 (.agg #[X f,X h]) (.agg #[X e,X g])).run prog i=.ok (.bool (f==e&&h==g)) i:=by
 refine Aj 3 λd b a=>?_;have:=DN i 175 3 .i64 2 b (λc=>if c=0 then f else h) (λc=>if c=0 then e else g) underlying175 underlying3 a ar;have j:h8 2 (λc=>if c=0 then f else h) (λc=>if c=0 then e else g)=(f==e&&h==g):=by simp[h8,List.range,List.range.loop]
 rw[j]at this;exact this
theorem XV(b c:Int)(d:b=512\/b=578\/b=320)(g:c=512\/c=578\/c=320):Calls prog 248 #[X b,X c] a λe f=>e=.returned (X (Ah b c))/\a=f:=by
 have h:=XU;rcases d with rfl|rfl|rfl<;>rcases g with rfl|rfl|rfl
 all_goals go_in;go_wp2;go_ret;exact⟨by simp[Ah],rfl⟩
theorem Eu{a b:Int}(f:8<=a/\a<=255)(c:1<=b/\b<=31):8<=a*b/\a*b<=7905:=by have d:a*1<=a*b:=rO c.1 Z;have e:a*b<=a*31:=rO c.2 Z;omega
theorem Ak{b a:Int}(f:8<=b/\b<=255)(d:1<=a/\a<=31)(e:k<64):160<=b*a*iF k/\b*a*iF k<=284580:=by have g:=Eu f d;have c:=Ai e;have h:b*a*20<=b*a*iF k:=rO c.1 Z;have i:b*a*iF k<=b*a*36:=rO c.2 Z;omega
theorem KL(d c:Int)(b:Nat)(j:8<=d/\d<=255)(f:1<=c/\c<=31)(g:b<64):Calls prog 225 #[X d,X c,X b] a λe p=>e=.returned (X (d*c*iF b))/\V [] a p:=by
 have q:decide (d<8)=false:=aw;have x:decide (255<d)=false:=aw;have t:decide ((b:Int)<0)=false:=U;have s:decide (64<=(b:Int))=false:=aw;have n:ps c=true:=rU.2 f;have r:=Eu j f;have u:=Ak j f g;have w:=Ai g;have i:=KK ⟨b/8,Z⟩;have h:=KK ⟨b%8,Z⟩;simp only at i h;have m:ck (iF b=Ah (Nm (b/8)) (Nm (b%8))):=rfl;go_in;go_wp2_with fail
 refine(Et _ c).mono ?_;rintro e l ⟨rfl,rfl⟩;rw[n];go_wp2_with fail
 refine(KJ _ (b/8) Z).mono ?_;rintro e l ⟨rfl,o⟩;go_wp2_with fail
 refine(KJ _ (b%8) Z).mono ?_;rintro e z ⟨rfl,k⟩;go_wp2_with fail
 refine(XV _ _ _ i h).mono ?_;rintro e y ⟨rfl,rfl⟩;rw[<-m.out];go_wp2_with fail
 go_ret;exact⟨rfl,o.ad k⟩
section
variable {d:Qav}{c:Qak}{j:Region.Mode}{t:N}{T:Qat}{i:Qad}
def XW(e:Qav)(d:Qak)(f:N)(a:Qax)(v:Qas)(c:Act):Prop:=(Region.wanted a (yielded d c.tmps)=true/\∀b,dU f b->wj e (V [] b) a.dst v ((execOp c.eval a).run e b))\/(Region.wanted a (yielded d c.tmps)=false/\undef=v)
def tz(T:Qat)(a:Qax):Bool:=a.guard.isNone&&a.dst.isSome&&match a.op with|.alloc b=>b==T|_=>false
def cf(T:Qat)(b:Qax)(v:Qas)(a:Act):Act:=if tz T b=true then a else a.put b.dst v
def XX(e:Qav)(b:Qak)(d:N)(T:Qat)(a:Qax)(v:Qas)(c:Act):Prop:=tz T a=true\/XW e b d a v c
def rV(d:Qav)(f:Qak)(c:N)(T:Qat)(a:Act->Prop):List Oper->Act->Prop
 |[],b=>a b
 |e::m,b=>∃v,XX d f c T e v b/\rV d f c T a m (cf T e v b)
end
section
variable {d:Qav}{c:Qak}{t:N}{T:Qat}{f:Act->Prop}{m:Qal}{e:Qax}{b:Act}
theorem tA(a:tz T e=true)(g:rV d c t T f m b):rV d c t T f (e::m) b:=⟨undef,.inl a,by unfold cf;rw[ae a];exact g⟩
theorem KM(a:tz T e=false):cf T e v b=b.put e.dst v:=by unfold cf;rw[M (by simp[a])]
theorem qH(v:Qas)(n:tz T e=false)(l:(match e.dst with|some C=>decide (C<b.tmps.size)|none=>true)=true)(u:cB e c b) (w:∀i,dU t i->∀p:Qab,(∀j,V [] i j->p (b.put e.dst v) j)->e.wp d b i p λ_ _ _=>False) (a:rV d c t T f m (b.put e.dst v)):rV d c t T f (e::m) b:=by
 refine⟨v,.inr (.inl ⟨u,λi B=>?_⟩),by rw[KM n];exact a⟩;refine Ku λh=>?_;have:=w i B (λy j=>y=b.put e.dst v/\V [] i j) (λj a=>⟨rfl,a⟩);unfold Oper.wp at this;generalize (execOp b.eval e).run d i=x at*;cases x with
 |ok o j=>exact Kv
 |halt k j=>cases k<;>simp only[Oper.upon]at this
theorem cY{i:Nat}{g k:Qat}{a:Qad}{h:TypeDesc}(j:Qau)(x:ag t i k a)(o:tz T e=false)(p:cB e c b)(s:e.op=.load g j)(r:b.eval j=ab i) (w:d.underlying g=some h) (ak:(match h with|.struct _|.array _ _=>true|_=>false)=true) (q:(d.info? g).map (·.size)=some a.size) (n:rV d c t T f m (b.put e.dst (a))):rV d c t T f (e::m) b:=by refine⟨a,.inr (.inl ⟨p,λl u=>?_⟩),by rw[KM o];exact n⟩;unfold execOp;simp only[s,r,Instr.loadAt,Instr.sureAddr,eS,iW,gl,tn l i k g a (0,0) h (u.ai x) w ak q];exact⟨.inr rfl,V.refl _ _⟩
end
def XY:af:=[0,1,8,16,9,2,3,10,17,24,32,25,18,11,4,5,12,19,26,33,40,48,41,34,27,20,13,6,7,14,21,28,35,42,49,56,57,50,43,36,29,22,15,23,30,37,44,51,58,59,52,45,38,31,39,46,53,60,61,54,47,55,62,63]
def XZ:af:=[0,8,16,24,1,9,2,10,17,25,32,40,48,56,57,49,41,33,26,18,3,11,4,12,19,27,34,42,50,58,35,43,51,59,20,28,5,13,6,14,21,29,36,44,52,60,37,45,53,61,22,30,7,15,23,31,38,46,54,62,39,47,55,63]
def X0:af:=[0,1,5,6,14,15,27,28,2,4,7,13,16,26,29,42,3,8,12,17,25,30,41,43,9,11,18,24,31,40,44,53,10,19,23,32,39,45,52,54,20,22,33,38,46,51,55,60,21,34,37,47,50,56,59,61,35,36,48,49,57,58,62,63]
def X1:af:=[0,4,6,20,22,36,38,52,1,5,7,21,23,37,39,53,2,8,19,24,34,40,50,54,3,9,18,25,35,41,51,55,10,17,26,30,42,46,56,60,11,16,27,31,43,47,57,61,12,15,28,32,44,48,58,62,13,14,29,33,45,49,59,63]
def X2:af:=[8,16,19,22,26,27,29,34,16,16,22,24,27,29,34,37,19,22,26,27,29,34,34,38,22,22,26,27,29,34,37,40,22,26,27,29,32,35,40,48,26,27,29,32,35,40,48,58,26,27,29,34,38,46,56,69,27,29,35,38,46,56,69,83]
def a6(a:Bool)(b:Nat):Nat:=(if a=true then XZ else XY).getD b 0
def lB(a:Bool)(b:Nat):Nat:=(if a=true then X1 else X0).getD b 0
def jN(a:Bool):aj:=λb=>(a6 a b:Int)
def mj:aj:=λa=>(X2.getD a 0:Int)
theorem pt(b:Bool){a:Nat}(c:a<64):a6 b a<64/\lB b a<64/\lB b (a6 b a)=a/\a6 b (lB b a)=a:=by
 have d:∀a:Fin 64,a6 true a.val<64/\lB true a.val<64/\lB true (a6 true a.val)=a.val/\a6 true (lB true a.val)=a.val:=bm;have e:∀a:Fin 64,a6 false a.val<64/\lB false a.val<64/\lB false (a6 false a.val)=a.val/\a6 false (lB false a.val)=a.val:=bm;cases b
 .exact e ⟨a,c⟩
 .exact d ⟨a,c⟩
def lC(a:aj)(b:Bool):aj:=λc=>a (a6 b c)
def kx(b:aj)(c:Bool):aj:=λa=>b (lB c a)
theorem X3(b:Bool){a:Nat}(c:a<64):kx (lC h b) b a=h a:=by unfold kx lC;rw[(pt b c).2.2.2]
def nM(d:aj)(b:Bool)(c:Nat):aj:=λa=>if lB b a<c then d (lB b a)else 0
theorem KN{a:Qaw}(b:Bool):an a 64 (nM h b 0)=an a 64 (λ_=>0):=jr (λc _=>by simp[nM])
theorem KO{b:Qaw}(a:Bool):an b 64 (nM h a 64)=an b 64 (kx h a):=jr (λd c=>by unfold nM kx;rw[ae (pt a c).2.1])
theorem KP{d:Qaw}(b:Bool){a:Nat}(j:a<64):(an d 64 (nM h b a)).setIfInBounds (a6 b a) (.int d (h a))=an d 64 (nM h b (a+1)):=by
 have f:=pt b j;rw[oD _ f.1];apply jr;intro c i;unfold aV nM;by_cases e:c=a6 b a
 .subst e;rw[ae rfl,f.2.2.1,ae Z]
 .rw[M e];have l:lB b c≠a:=λk=>e (by rw[<-k,(pt b i).2.2.2]);by_cases g:lB b c<a
  .rw[ae g,ae Z]
  .rw[M g,M Z]
theorem KQ(f:∃b,ag a 0 b (an .u8 64 mj)):Calls prog 90 #[] a λg j=>g=.returned (.agg (an .u8 64 mj))/\V [] a j:=by
 obtain⟨b,k⟩:=f;go_in;go_wp2_with(first|(refine Er rfl rfl ?_;intro n m h c i)|(refine rN rfl 24 _ rfl 0 rfl b _ (0,0) _ (k.S c U) underlying24 rfl (Ae _) ?_)|(refine KD h rfl rfl rfl rfl ?_;intro o d e l))
 exact bB (KE rfl d rfl) ⟨rfl,c.own e i⟩
def KR(b a:Nat):Nat:=if b%2=0 then 7-a else a
def X4(a b:Nat):Bool:=decide (KR a b<=a)&&decide (a-KR a b<8)
def dx(b:Nat):Nat:=((List.range b).filter λa=>X4 (a/8) (a%8)).length
theorem X5:dx 120=64:=bm
def Ev(c:N)(b:Bool):Prop:=∀a,V [] c a->Calls prog 134 #[.bool b] a λd e=>d=.returned (.agg (an .i64 64 (jN b)))/\V [] a e
theorem KS(a:u:=by
 have W:=Y (H.own aU F);have za:=Y (l.same aU);have zb:=Y r;have zf:(a6 c b:Int)<64:=Z;clear r aU D H l d;generalize a6 c b=y at w A zc u Q zf W za zb;go_wp2_with fail
 go_roundw
 .exact⟨b+1,Z,a8,W.out,za.out,zb⟩
 .simp[intOf];omega):u:=a
theorem KT(a:u:=by
 have zl:=I.out.S l (by simp;exact x);clear d;go_wp2_with(first|refine nJ G rfl rfl rfl ?_|(refine mZ zl rfl rfl rfl rfl ?_;intro zn zd zh zr))
 exact bB (tr rfl zd rfl) ⟨rfl,H.own zh z⟩):u:=a
theorem KU(a:zi)(b:cZ zi->u:=by
 intro ze;refine(m _ ((n.ad g).ad i)).mono ?_;rintro B j ⟨rfl,f⟩;have p:=Y (((t.S g U).S i U).S f U);have I:=Y ((q.S i U).S f U);have k:=E.S f U;have s:=((n.ad g).ad i).ad f;have o:J≠e:=by have:=t.lt;have:=g.size;omega
 have x:O≠e:=by have:=q.lt;omega
 have P:=n.size;have K:=g.size;have F:a.heap.size<=e:=Z;have z:a.heap.size<=O:=Z;revert j f p I k s o x P K F z;exact ze.out):u:=b ⟨a⟩
theorem X6(c:Bool)(m:Ev a c):Calls prog 260 #[.agg (an .i64 64 h),.bool c] a λB zm=>B=.returned (.agg (an .i64 64 (lC h c)))/\V [] a zm:=by
 go_in;refine fE λzk zi=>?_;go_wp2_with(first|(clear zk;refine ts rfl rfl rfl ?_;intro J zp t n zu)|(clear zi;refine k6 rfl rfl ?_;intro O zv q g zs)|(refine k6 rfl rfl ?_;intro e zt E i zx))
 refine KU λj f p I k s o x P K F z=>?_;have zj:=Y (show ag j e 230 (an .i64 64 (c3 0 (lC h c))) by rw[rG];exact k);have zo:=Y m;clear t q E n g i f k m;go_wp2_with fail
 go_loopw [10] (λL wr=>∃b:Nat,b<=64/\L=.int .i64 (b:Int)/\V [] a wr/\V [e] j wr/\Hid (ag wr e 230 (an .i64 64 (c3 b (lC h c))))) (λL _=>64-(intOf L).toNat)
 .exact⟨0,Z,rfl,s,V.refl _ _,zj⟩
 .obtain⟨b,zq,rfl,H,l,d⟩:=hrel;by_cases C:b<64
  .have zw:(b:Int)<64:=Z;have w:=oJ (jN c) b C;obtain⟨A,_,_,_⟩:=pt c C;have D:jN c b=(a6 c b:Int):=rfl;rw[D]at w;have zc:wr.cell? ⟨J,a6 c b,none⟩=some (.int .i64 (lC h c b)):=by have:=(p.out.S l (by simp;exact o)).au (a6 c b);rw[dw A]at this;exact this
   have u:=d.out.au (b);rw[dw C]at u;have Q:=d.out.eA (b);obtain⟨r,aU⟩:=d.out.hc (b) (.int .i64 (lC h c b));rw[ph (h:=lC h c) C rfl]at r;exact KS
  .obtain rfl:b=64:=Z;have G:=d.out;rw[oE Z]at G;exact KT
theorem X7(c:Bool)(m:Ev a c):Calls prog 188 #[.agg (an .i64 64 h),.bool c] a λB zm=>B=.returned (.agg (an .i64 64 (kx h c)))/\V [] a zm:=by
 go_in;refine fE λzk zi=>?_;go_wp2_with(first|(clear zk;refine ts rfl rfl rfl ?_;intro J zp t n zu)|(clear zi;refine k6 rfl rfl ?_;intro O zv q g zs)|(refine k6 rfl rfl ?_;intro e zt E i zx))
 refine KU λj f p I k s o x P K F z=>?_;have zj:=Y (show ag j e 230 (an .i64 64 (nM h c 0)) by rw[KN];exact k);have zo:=Y m;clear t q E n g i f k m;go_wp2_with fail
 go_loopw [10] (λL wr=>∃b:Nat,b<=64/\L=.int .i64 (b:Int)/\V [] a wr/\V [e] j wr/\Hid (ag wr e 230 (an .i64 64 (nM h c b)))) (λL _=>64-(intOf L).toNat)
 .exact⟨0,Z,rfl,s,V.refl _ _,zj⟩
 .obtain⟨b,zq,rfl,H,l,d⟩:=hrel;by_cases C:b<64
  .have zw:(b:Int)<64:=Z;have w:=oJ (jN c) b C;obtain⟨A,_,_,_⟩:=pt c C;have D:jN c b=(a6 c b:Int):=rfl;rw[D]at w;have zc:wr.cell? ⟨J,b,none⟩=some (.int .i64 (h b)):=by have:=(p.out.S l (by simp;exact o)).au (b);rw[dw C]at this;exact this
   have u:=d.out.au (a6 c b);rw[dw A]at u;have Q:=d.out.eA (a6 c b);obtain⟨r,aU⟩:=d.out.hc (a6 c b) (.int .i64 (h b));rw[KP h c C]at r;exact KS
  .obtain rfl:b=64:=Z;have G:=d.out;rw[KO]at G;exact KT
def cI(a:Nat):Nat:=a-7
def bw(a:Nat):Nat:=min a 7+1-cI a
theorem KV(d:r<15):dx (8*r)+bw r=dx (8*(r+1))/\dx (8*(r+1))<=64/\1<=bw r/\bw r<=8/\∀a,a<bw r->a6 false (dx (8*r)+a)=7*(cI r+(if r%2=0 then bw r-1-a else a))+r:=by have:∀r:Fin 15,dx (8*r.val)+bw r.val=dx (8*(r.val+1))/\dx (8*(r.val+1))<=64/\1<=bw r.val/\bw r.val<=8/\∀a:Fin 8,a.val<bw r.val->a6 false (dx (8*r.val)+a.val)=7*(cI r.val+(if r.val%2=0 then bw r.val-1-a.val else a.val))+r.val:=bm;obtain⟨e,g,c,b,h⟩:=this ⟨r,d⟩;exact⟨e,g,c,b,λa f=>h ⟨a,by simp only at b;omega⟩ f⟩
def gF(a c:Nat):aj:=λb=>if b<dx (8*a)then jN false b else if b<dx (8*a)+c then((7*(cI a+(b-dx (8*a)))+a:Nat):Int)else 0
theorem X8{c:Qaw}(b:Nat):an c 64 (gF b 0)=an c 64 (c3 (dx (8*b)) (jN false)):=jr (λd _=>by
 unfold gF c3;by_cases a:d<dx (8*b)
 .rw[ae a,ae a]
 .rw[M a,M a,M Z])
theorem X9{d:Qaw}{a:Nat}{v:Int}(i:a=dx (8*r)+D)(g:a<64)(h:v=((7*(cI r+D)+r:Nat):Int)):(an d 64 (gF r D)).setIfInBounds a (.int d v)=an d 64 (gF r (D+1)):=by
 rw[oD v g];apply jr;intro c _;unfold aV gF;by_cases f:c=a
 .rw[ae f,M Z,ae Z,h];congr 4;omega
 .rw[M f];by_cases b:c<dx (8*r)
  .rw[ae b,ae b]
  .rw[M b,M b];by_cases e:c<dx (8*r)+D
   .rw[ae e,ae Z]
   .rw[M e,M Z]
def dD:Prop:=∀(c:N)(b d a:Nat),a<15->ag c b 230 (an .i64 64 (gF a (bw a)))->ag c d 3 #[.int .i64 (a:Int)]->Calls prog 207 #[.slice (some ⟨b,dx (8*a),none⟩) (bw a) (64-dx (8*a)),.func (.func 208) #[] #[.pointer (some ⟨d,0,none⟩)]] c λf e=>f=.returned (.tuple #[])/\V [b] c e/\ag e b 230 (an .i64 64 (c3 (dx (8*(a+1))) (jN false)))
theorem X':dJ 3 (.int .i64 0):=dM
section
variable {c:Qak}{m:Qal}{e:Qax}{b:Act}{a:N}{f:Qaa}{z zb cr:Qau}
theorem KW{p:Array TypeId}(g d k:Int)(o:(if d<g then d else g)=k)(i:e.guard=none)(n:e.op=.call {callee:=.builtin .min,args:=#[z,zb],argTypes:=p})(l:b.eval z=.int .i64 g)(j:b.eval zb=.int .i64 d) (h:wpList prog c f m (b.put e.dst (.int .i64 k)) a):wpList prog c f (e::m) b a:=by exact KX
theorem Ya{p:Array TypeId}(i g o:Int)(n:(if g>i then g else i)=o)(q:e.guard=none)(l:e.op=.call {callee:=.builtin .max,args:=#[z,zb],argTypes:=p})(k:b.eval z=.int .i64 i)(h:b.eval zb=.int .i64 g) (d:wpList prog c f m (b.put e.dst (.int .i64 o)) a):wpList prog c f (e::m) b a:=by refine jq q λr j=>?_;exact Ew
theorem Yb(d:N)(c a b:Nat)(i:a<=b)(j:b<=64)(h:a<64):(Instr.sliceAt 230 (.pointer (some ⟨c,0,none⟩)) (some (.int .i64 (a:Int))) (some (.int .i64 (b:Int))) none).run prog d=.ok (.slice (some ⟨c,a,none⟩) (b-a) (64-a)) d:=by have e:prog.arrayLen 230=64:=ar;have g:prog.elem 230=3:=ar;have f:=run_sliceAt_array_lh (P:=prog) d 230 ⟨c,0,none⟩ ar .i64 .i64 (a:Int) (b:Int) Z Z qI;rw[e,g,qG]at f;rw[f];simp only[gl,slicedAt,gx];rw[M Z,k3,ox,c']
theorem Yc{h:Nat}(d g:Nat)(i:d<=g)(n:g<=64)(s:d<64)(k:e.guard=none)(r:e.op=.slice 230 z (some zb) (some cr) none)(p:b.eval z=.pointer (some ⟨h,0,none⟩))(l:b.eval zb=.int .i64 (d:Int))(q:b.eval cr=.int .i64 (g:Int)) (j:wpList prog c f m (b.put e.dst (.slice (some ⟨h,d,none⟩) (g-d) (64-d))) a):wpList prog c f (e::m) b a:=by refine jq k λt o=>?_;unfold Oper.wp execOp;simp only[r,hU,rW,p,l,q,eS];rw[Yb a h d g i n s];exact o _ _ j
theorem Yd(i:e.guard=none)(j:e.op=.alloc 3)(h:∀d g,ag g d 3 #[.int .i64 0]->V [] a g->a.heap.size<=d->wpList prog c f m (b.put e.dst (.pointer (some ⟨d,0,none⟩))) g):wpList prog c f (e::m) b a:=cw _ _ i j X' rfl h
end
theorem Ye(zZ:dD)(f:N):Calls prog 169 #[] f λr x=>r=.returned (.agg (an .i64 64 (jN false)))/\V [] f x:=by
 refine wq λO=>?_;go_in;have n:True:=trivial;go_wp2_with(first|(clear n;refine k6 rfl rfl ?_;intro zap zam K zb zav)|(refine k6 rfl rfl ?_;intro e w I A zan))
 have zD:=zb.ad A;have z6:=K.S A U;have zak:=K.lt;have zat:=zb.size;have ze:f.heap.size<=e:=Z;have zae:=I.lt;have zW:=Y (show ag w e 230 (an .i64 64 (c3 (dx (8*0)) (jN false))) by rw[show dx (8*0)=0 from rfl,rG];exact I);clear K zb A I;go_loopw [2,6] (λp G wr=>∃a:Nat,a<=15/\G=.int .i64 (a:Int)/\p=.int .i64 (dx (8*a):Int)/\V [] f wr/\V [e] w wr/\Hid (ag wr e 230 (an .i64 64 (c3 (dx (8*a)) (jN false))))) (λ_ G _=>15-(intOf G).toNat)
 .exact⟨0,Z,rfl,rfl,zD,V.refl _ _,zW⟩
 .obtain⟨a,zaq,rfl,rfl,l,k,j⟩:=hrel;by_cases zs:a<15
  .have zaj:(a:Int)<15:=Z;obtain⟨P,zV,zO,zz,_⟩:=KV zs;obtain⟨c,F⟩:∃c,c=dx (8*a):=⟨_,rfl⟩;have zn:=Y F;rw[<-F]at P⊢;obtain⟨i,u⟩:∃i,i=cI a:=⟨_,rfl⟩;have zT:=Y u;have zP:i=a-7:=u;have zU:bw a=min a 7+1-i:=by rw[u];rfl
   have z1:=Y (show(if(a:Int)-8+1>0 then(a:Int)-8+1 else 0)=(i:Int)from rX);obtain⟨g,zR⟩:∃g,g=min a 7:=⟨_,rfl⟩;have zp:=Y (show(if(7:Int)<(a:Int)then 7 else(a:Int))=(g:Int)from rX);have zK:i+bw a=g+1:=Z;have zj:=Y (show ag wr e 230 (an .i64 64 (gF a 0)) by rw[X8];exact j.out);have zB:c+bw a<=64:=Z;have zh:=Y P;have zao:g<=7/\g<=a/\i<=a:=Z;clear F u zP zU zR j P zV;generalize zu:bw a=aM at zO zz zK zB zh;have zt:=Y zu;clear zu;refine nb λn za zab=>?_;go_wp2_with(first|(clear n;refine Yd rfl rfl ?_;intro m zi q t zy;have zF:=q.au 0;have zE:=q.eA 0;obtain⟨L,zw⟩:=q.hc 0 (.int .i64 (a:Int));have zf:=Y L;have y:=Y zw;have zA:=Y q;have zq:=L.au 0;clear L zw q)|(clear za;refine Ya 0 ((a:Int)-8+1) (i:Int) z1.out rfl rfl rfl rfl ?_))
   clear zF zE zq;have zai:wr.heap.size<=m:=zy;have zk:e≠m:=by have:=k.size;omega
   have zv:=(l.ad t).own y.out (by have:=l.size;omega);have zr:V [e] w (zi.setCell ⟨m,0,none⟩ (.int .i64 (a:Int))):=(k.ad t).trans y.out (λzah zN=>.inr (by simp at zN;have:=k.size;omega));have zo:=Y ((zj.out.S t U).S y.out (by simp;exact zk));clear t y zA zj zy l k;generalize zi.setCell ⟨m,0,none⟩ (.int .i64 (a:Int))=zau at zf zv zr zo⊢;go_loopw [2,5] (λp zL wr=>∃h d b:Nat,h<=aM/\Hid (d=i+h)/\Hid (b=c+h)/\zL=.int .i64 (d:Int)/\p=.int .i64 (b:Int)/\V [] f wr/\V [e] w wr/\Hid (ag wr m 3 #[.int .i64 (a:Int)])/\Hid (ag wr e 230 (an .i64 64 (gF a h)))) (λp _ _=>c+aM-(intOf p).toNat)
   .exact⟨0,i,c,Z,Y rfl,Y rfl,rfl,rfl,zv,zr,zf,zo⟩
   .obtain⟨h,d,b,zar,W,H,rfl,rfl,l,k,o,j⟩:=hrel;have Q:=W.out;have s:=H.out;have zq:=o.out.au 0;by_cases zX:h<aM
    .have ak:(d:Int)<=(g:Int):=Z;have zQ:d<=g:=Z;have z:b<64:=Z;have zaf:(b:Int)<64:=Z;have zH:=j.out.au b;rw[dw z]at zH;have z':=j.out.eA b;obtain⟨J,aU⟩:=j.out.hc b (.int .i64 (8*(d:Int)+(a:Int)-(d:Int)));rw[X9 (D:=h) (by rw[s,zn.out]) z (by rw[Q,zT.out];omega)]at J;have E:=Y (l.own aU ze);have B:=Y (k.same aU);have C:=Y J;have zG:=Y (o.out.S aU (by simp;exact hv zk));have z7:=Y (show d+1=i+(h+1)from Z);have zM:=Y (show b+1=c+(h+1)from Z);have zag:d<=7:=Z;have zal:b<c+aM:=Z;clear J aU l k j o Q s W H;go_wp2_with(refine KW (a:Int) 7 (g:Int) zp.out rfl rfl rfl rfl ?_)
     go_roundw
     .exact⟨h+1,d+1,b+1,Z,z7,zM,a8,a8,E.out,B.out,zG,C⟩
     .simp[intOf];omega
    .obtain rfl:h=aM:=Z;have ak:decide ((d:Int)<=(g:Int))=false:=e7 Z;have zQ:decide (d<=g)=false:=e7 Z;have zaa:g<d:=Z;have zY:c<=b:=Z;have zJ:c<64:=Z;have z:b<=64:=Z;have zm:=Y (show Calls prog 207 #[.slice (some ⟨e,c,none⟩) (b-c) (64-c),.func (.func 208) #[] #[.pointer (some ⟨m,0,none⟩)]] wr λr x=>r=.returned (.tuple #[])/\V [e] wr x/\ag x e 230 (an .i64 64 (c3 (dx (8*(a+1))) (jN false)))from by have zc:=zZ wr e m a zs (by rw[zt.out];exact j.out) o.out;rw[zt.out,<-zn.out]at zc;rw[show b-c=h from Z];exact zc);have zS:=Y (show b=dx (8*(a+1)) by rw[s,zh.out]);clear Q s W H zX j o;refine fE λn za=>?_;go_wp2_with(first|(clear n;refine KW (a:Int) 7 (g:Int) zp.out rfl rfl rfl rfl ?_)|(clear za;refine Yc c b zY z zJ rfl rfl rfl rfl rfl ?_))
     refine zm.out.mono ?_;rintro r zac ⟨rfl,D,zl⟩;have E:=Y (l.own D ze);have B:=Y (k.same D);have C:=Y zl;clear D zl l k zm;go_wp2_with fail
     go_roundw
     .exact⟨a+1,Z,a8,by rw[zS.out],E.out,B.out,C⟩
     .simp[intOf];omega
  .obtain rfl:a=15:=Z;have zx:=j.out;rw[show dx (8*15)=64 from X5,oE Z]at zx;have z8:=z6.S k aw;clear j;go_wp2_with(first|refine nJ zx rfl rfl rfl ?_|(refine mZ z8 rfl rfl rfl rfl ?_;intro zad zI zC zas))
   exact bB (tr rfl zI rfl) ⟨rfl,l.own zC Z⟩
def dA(b:N):Prop:=(∃a,ag b 1 a (an .i64 64 (jN true)))/\∃a,ag b 0 a (an .u8 64 mj)
theorem dA.ad{a:N}(c:dA a)(b:V [] a F):dA F:=by obtain⟨⟨d,f⟩,e,g⟩:=c;exact⟨⟨d,f.S b U⟩,e,g.S b U⟩
theorem Al(j:dD)(e:N)(g:dA e)(f:Bool):Ev e f:=by
 intro x i;obtain⟨⟨q,r⟩,_⟩:=g.ad i;cases f with
 |true=>
  go_in;go_wp2_with(first|(refine k6 rfl rfl ?_;intro h k c b d)|(refine rN rfl 230 _ rfl 1 rfl q _ (0,0) _ (r.S b U) underlying230 rfl (qC _) ?_)|(refine mZ c rfl rfl rfl rfl ?_;intro p l a t))
  exact bB (tr rfl l rfl) ⟨rfl,b.own a d⟩
 |false=>
  go_in;go_wp2_with(refine k6 rfl rfl ?_;intro h k c b d)
  refine(Ye j _).mono ?_;rintro u p ⟨rfl,a⟩;have n:=c.S a U;go_wp2_with(refine mZ n rfl rfl rfl rfl ?_;intro w o m s)
  exact bB (tr rfl o rfl) ⟨rfl,(b.ad a).own m d⟩
theorem KY(a:u:=by
 go_in;go_wp2_with fail
 go_loopw [0,1] (λI v wr=>∃h L:Nat,h<18446744073709551616/\L<18446744073709551616/\I=.int .u64 h/\v=.int .u64 L/\Nat.gcd h L=Nat.gcd b c/\V [] a wr) (λ_ v _=>(intOf v).toNat)
 .exact⟨b,c,g,k,rfl,rfl,rfl,V.refl _ _⟩
 .obtain⟨h,L,s,n,rfl,rfl,e,i⟩:=hrel;have f:=Y e;clear e;by_cases o:L=0
  .subst o;go_wp2_with fail
   go_ret;exact⟨aX Ending.returned (aX (Value.int IntKind.u64) (by rw[<-f.out];simp)),i⟩
  .have p:((L:Int)==0)=false:=aw;have r:¬(L:Int)=0:=Z;have q:((L:Int) !=0)=true:=aw;have t:h%L<L:=nc _ Z;go_wp2_with fail
   refine Ac (dU wr) ar ar dU.refl ?_;refine qJ ?_;refine rS ?_;intro d l;go_wp2_with fail
   exact⟨⟨L,h%L,n,Z,rfl,a8,by rw[<-f.out,KZ h L,Nat.gcd_rec L h,KZ],i.ad l.S⟩,bF⟩):u:=a
theorem Yf(b c:Nat)(g:b<18446744073709551616)(k:c<18446744073709551616):Calls prog 127 #[.int .u64 (b:Int),.int .u64 (c:Int)] a λm d=>m=.returned (.int .u64 (Nat.gcd b c:Int))/\V [] a d:=by exact KY
theorem Yg(b c:Nat)(g:b<18446744073709551616)(k:c<18446744073709551616):Calls prog 129 #[.int .u64 (b:Int),.int .u64 (c:Int)] a λm d=>m=.returned (.int .u64 (Nat.gcd b c:Int))/\V [] a d:=by exact KY
def js(a:Int):Prop:=-9223372036854775808<=a/\a<=9223372036854775807
theorem Ex(a:u:=by go_in;go_wp2;go_ret;exact⟨aX Ending.returned (aX (Value.int IntKind.u64) Z),rfl⟩):u:=a
theorem Yh(b:Int)(c:js b):Calls prog 128 #[X b] a λf g=>f=.returned (.int .u64 (b.natAbs:Int))/\a=g:=by
 unfold js at c;by_cases e:b<0
 .have d:decide (b<0)=true:=kf;exact Ex
 .have d:decide (b<0)=false:=kf;exact Ex
theorem Yi(a:Int)(c:0<a/\a<=9223372036854775808):IntKind.u64.wrap (-IntKind.u64.wrap (-a))=a:=by exact K0
theorem Yj(b:Int)(d:js b):Calls prog 130 #[X b] a λg i=>g=.returned (.int .u64 (b.natAbs:Int))/\a=i:=by
 unfold js at d;by_cases e:b<0
 .obtain⟨c,rfl⟩:∃c,b=-c:=⟨-b,Z⟩;have f:decide (0<c)=true:=aw;have j:0<c:=Z;have h:=Y (Yi c Z);go_in;go_wp2;go_ret;exact⟨aX Ending.returned (aX (Value.int IntKind.u64) (h.out.trans Z)),rfl⟩
 .have f:decide (b<0)=false:=kf;exact Ex
def ky(num a:Int):Prop:=1<=a/\-9223372036854775807<=num/\Nat.gcd num.natAbs a.natAbs=1
instance (num a:Int):Decidable (ky num a):=by unfold ky;infer_instance
section
variable {c:Qak}{m:Qal}{e:Qax}{b:Act}{a:N}{f:Qaa}{z zb:Qau}
theorem K1{num h:Int}(j:e.guard=none)(l:e.op=.box 23 z)(k:b.eval z=.agg #[X num,X h])(i:∀d g,ag g d 23 #[X num,X h]->V [] a g->a.heap.size<=d->wpList prog c f m (b.put e.dst (ab d)) g):wpList prog c f (e::m) b a:=cx _ _ j l k rfl i
end
theorem K2(a:u:=by
 have C:decide (1<=b)=false:=iD;have K:b<1:=Z;clear g m ak e d i p;refine Am ?_;refine qJ ?_;refine rS ?_;intro c q;go_wp2_with fail
 go_ret;exact⟨aX Ending.returned (aX Value.bool (by rw[l.out];exact(e7 (λf=>absurd f.1 Z)).symm)),u.ad q.S⟩):u:=a
theorem K3(a:u:=by
 obtain rfl:num=-9223372036854775808:=Z;clear x m e ak d i p g;refine Am ?_;refine qJ ?_;refine rS ?_;intro c q;go_wp2_with fail
 go_ret;exact⟨aX Ending.returned (aX Value.bool (by rw[l.out];exact(e7 (λf=>absurd f.2.1 Z)).symm)),u.ad q.S⟩):u:=a
theorem K4(a:u:=by
 simp only[az];refine qJ ?_;refine rS ?_;intro c q;go_wp2_with fail
 go_ret;refine⟨aX Ending.returned (aX Value.bool ?_),u.ad q.S⟩;rw[l.out,t.out];have s:=o.out;simp[g,x,s]):u:=a
theorem K5(a:zi)(b:zi->u:=by intro G;have i:=z.ah 0;have p:=z.ah 1;have A:∀c,dU k c->c.cell? ⟨y,0,none⟩=some (.int .i64 num):=λc f=>f.au i;have B:∀c,dU k c->c.cell? ⟨y,1,none⟩=some (.int .i64 b):=λc f=>f.au p;revert i p A B;exact G):u:=b a
theorem K6(a:zi)(b:cZ zi->u:=by
 intro H;have t:=Y (show(((h:Int)).natAbs)=h from Z);generalize s:Nat.gcd num.natAbs h=n;have o:=Y s;clear s;have r:num.natAbs<18446744073709551616:=Z;have w:((n:Int)==1)=decide (n=1):=by by_cases D:n=1<;>simp[D]<;>omega
 refine Am ?_;refine qJ ?_;revert t n o r w;exact H.out):u:=b ⟨a⟩
theorem K7(a:zi)(b:zi->u:=by intro I;have l:ck (decide (ky num b)=decide (1<=b/\-9223372036854775807<=num/\Nat.gcd num.natAbs b.natAbs=1)):=rfl;have e:=m;have d:=ak;revert l e d;exact I):u:=b a
theorem K8(num b:Int)(m:js num)(ak:js b):Calls prog 73 #[.agg #[X num,X b]] a λF c=>F=.returned (.bool (decide (ky num b)))/\V [] a c:=by
 refine K7 λl e d=>?_;unfold js at e d;go_in;go_wp2_with(refine K1 rfl rfl rfl ?_;intro y k z u L)
 refine K5 λi p A B=>?_;by_cases g:1<=b
 .have C:decide (1<=b)=true:=iD;by_cases x:-9223372036854775807<=num
  .have J:decide (-9223372036854775807<=num)=true:=aw;obtain⟨h,rfl⟩:=Int.eq_ofNat_of_zero_le (show 0<=b from Z);refine K6 λt n o r w=>?_;refine tw (λa j=>Calls.Kx j (Yh a num m)) rfl (λa=>?_) ?_
   .go_simp;try rfl
   simp only[az];refine Ey ?_;refine tw (λa j=>Calls.Ad j (o.out▸Yf a num.natAbs h r Z)) rfl (λa=>?_) ?_
   .go_simp;try rfl
   exact K4
  .exact K3
 .exact K2
theorem K9(num b:Int)(m:js num)(ak:js b):Calls prog 76 #[.agg #[X num,X b]] a λF c=>F=.returned (.bool (decide (ky num b)))/\V [] a c:=by
 refine K7 λl e d=>?_;unfold js at e d;go_in;go_wp2_with(refine K1 rfl rfl rfl ?_;intro y k z u L)
 refine K5 λi p A B=>?_;by_cases g:1<=b
 .have C:decide (1<=b)=true:=iD;by_cases x:-9223372036854775807<=num
  .have J:decide (-9223372036854775808<num)=true:=aw;obtain⟨h,rfl⟩:=Int.eq_ofNat_of_zero_le (show 0<=b from Z);refine K6 λt n o r w=>?_;refine tw (λa j=>Calls.Kx j (Yj a num m)) rfl (λa=>?_) ?_
   .go_simp;try rfl
   simp only[az];refine Ey ?_;refine tw (λa j=>Calls.Ad j (o.out▸Yg a num.natAbs h r Z)) rfl (λa=>?_) ?_
   .go_simp;try rfl
   exact K4
  .exact K3
 .exact K2
structure aD where
 W:Int
 H:Int
 num:Int
 den:Int
 b8:Bool
 eV:Int
 fe:Int
 a:aj
 b:aj
def da(a:aD):Qam:=[.int .i64 a.W,.int .i64 a.H,.int .i64 a.num,.int .i64 a.den,.bool a.b8,.int .i64 a.eV,.int .i64 a.fe]
def cO(a:aD):Qam:=da a++(gE .u8 64 a.a++gE .u8 64 a.b)
def ay(a:aD):Qad:=(cO a).toArray
theorem gr(a:aD):(ay a).size=135:=by simp[ay,cO,da,iy]
theorem pu(b:aD):(ay b).all (·.oneCell')=true:=by rw[kw];intro v a;simp[ay,cO,da,gE]at a;rcases a with rfl|rfl|rfl|rfl|rfl|rfl|rfl|⟨_,_,rfl⟩|⟨_,_,rfl⟩<;>rfl
structure nd(a:aD):Prop where
 W:js a.W
 H:js a.H
 num:js a.num
 den:js a.den
 eV:js a.eV
 fe:js a.fe
section
variable {a:N}{n:Nat}{T:Qat}{r:aD}
theorem ag.aQ(b:ag a n T (ay r)):a.cell? ⟨n,0,none⟩=some (.int .i64 r.W)/\a.cell? ⟨n,1,none⟩=some (.int .i64 r.H)/\a.cell? ⟨n,2,none⟩=some (.int .i64 r.num)/\a.cell? ⟨n,3,none⟩=some (.int .i64 r.den)/\a.cell? ⟨n,4,none⟩=some (.bool r.b8)/\a.cell? ⟨n,5,none⟩=some (.int .i64 r.eV)/\a.cell? ⟨n,6,none⟩=some (.int .i64 r.fe):=by refine⟨?_,?_,?_,?_,?_,?_,?_⟩<;>rw[b.au]<;>simp[ay,cO,da]
theorem ag.Ez(e:ag a n T (ay r)):a.rangeAt n 2 [.int .i64 r.num,.int .i64 r.den]:=by
 obtain⟨_,_,f,c,_⟩:=e.aQ;intro d v b;match d,b with
 |0,b=>simp at b;subst b;exact f
 |1,b=>simp at b;subst b;exact c
theorem ag.An(d:ag a n T (ay r)):a.rangeAt n 7 (gE .u8 64 r.a):=by
 intro c v b;have e:c<64:=by have:=(e8.1 b).1;rwa[iy]at this
 rw[d.au];simp only[ay,b4,cO];rw[db (by simp[da]),eE EA];simpa[da]using b
theorem ag.K'(c:ag a n T (ay r)):a.rangeAt n 71 (gE .u8 64 r.b):=by intro b v e;rw[c.au];simp only[ay,b4,cO];rw[db wt,db EA,iy];have d:71+b-(da r).length-64=b:=wt;rw[d];exact e
end
theorem EB(a:aD):(prog.info? 26).map (·.size)=some (ay a).size:=by rw[gr];kernel_rfl
section
variable {c:Qak}{m:Qal}{e:Qax}{b:Act}{a:N}{f:Qaa}{z zb:Qau}{n:Nat}{r:aD}
theorem oK(i:e.guard=none)(k:e.op=.box 26 z)(j:b.eval z=(ay r))(h:∀d g,ag g d 26 (ay r)->V [] a g->a.heap.size<=d->wpList prog c f m (b.put e.dst (ab d)) g):wpList prog c f (e::m) b a:=cx _ _ i k j rfl h
theorem wu(d:ag a n 26 (ay r))(h:e.guard=none)(j:e.op=.load 26 z)(i:b.eval z=ab n) (g:wpList prog c f m (b.put e.dst (ay r)) a):wpList prog c f (e::m) b a:=rN h 26 z j n i 26 _ (0,0) _ d underlying26 rfl (EB _) g
theorem qK{g:Nat}{d:Qam}{h:TypeDesc}(i:a.rangeAt n g d)(k:cB e c b)(q:e.op=.load zv z)(p:b.eval z=.pointer (some ⟨n,g,none⟩)) (r:prog.underlying zv=some h) (ak:h.isRow=true) (l:(prog.info? zv).map (·.size)=some d.length) (j:wpList prog c f m (b.put e.dst (.agg d.toArray)) a):wpList prog c f (e::m) b a:=nf λs o=>by rw[ae k];exact wp_load_mid _ z q n g p d _ i r ak l (o _ _ j)
end
theorem Ao:(prog.info? 23).map (·.size)=some 2:=ar
theorem Ap:(prog.info? 24).map (·.size)=some (gE .u8 64 h).length:=by rw[iy];exact KC
def et(a:aD):Prop:=16<=a.W/\a.W<=64/\a.W%16=0/\16<=a.H/\a.H<=64/\a.H%16=0/\(a.b8=true->a.H%32=0)/\ky a.num a.den/\1<=a.num/\a.num<=1048576/\a.den<=65536/\1<=a.eV/\a.eV<=16777216/\1<=a.fe/\a.fe<=8388608/\3*a.den*a.eV+32*a.num<=2*a.num*a.fe/\gP a.a 64=true/\gP a.b 64=true
instance (a:aD):Decidable (et a):=by unfold et;infer_instance
def aL(a:aD):Bool:=decide (et a)
theorem lD{a:aD}:aL a=true↔et a:=by simp[aL]
theorem qL{a:aD}(b:¬et a):aL a=false:=by simp[aL,b]
def qM(a:Int):Bool:=decide (16<=a/\a<=64/\a%16=0)
theorem La(a:u:=by go_in;go_wp2;go_ret;exact⟨aX Ending.returned (aX Value.bool (by rw[c.out];exact(e7 Z).symm)),rfl⟩):u:=a
theorem Lb(b:Int):Calls prog 75 #[X b,X 64] a λf k=>f=.returned (.bool (qM b))/\a=k:=by
 have c:ck (qM b=decide (16<=b/\b<=64/\b%16=0)):=rfl;by_cases g:16<=b
 .have h:decide (16<=b)=true:=iD;by_cases i:b<=64
  .have e:decide (b<=64)=true:=iB;by_cases p:b%16=0
   .have j:(b%16==0)=true:=mY;have d:=Y p;clear p;go_in;go_wp2;go_ret;exact⟨aX Ending.returned (aX Value.bool (by rw[c.out];simp[g,i,d.out])),rfl⟩
   .have j:(b%16==0)=false:=mY;go_in;go_wp2;go_ret;exact⟨aX Ending.returned (aX Value.bool (by rw[c.out];simp[p])),rfl⟩
  .have e:decide (b<=64)=false:=iB;exact La
 .have h:decide (16<=b)=false:=iD;exact La
theorem rY{a:Int}(c:0<=a/\a<=J)(b:0<=A/\A<=G):0<=a*A/\a*A<=J*G:=⟨qF c.1 b.1,by have d:a*A<=J*A:=ty c.2 b.1;have e:J*A<=J*G:=rO b.2 Z;omega⟩
theorem Yk(a:u:=by go_ret;exact⟨aX Ending.returned (aX Value.bool (qL (λi=>by unfold et at i;simp only at i;omega)).symm),A⟩):u:=a
theorem Lc(a:u:=by
 have zu:ky num c:=by simpa using C
 have zag:1<=c:=zu.1;have zM:=Y zu;clear zu C;by_cases J:num<1
 .exact Ld
 .have zH:decide (num<1)=false:=by simpa using J
  have zaq:1<=num:=Z;clear J;by_cases H:1048576<num
  .exact Le
  .have zO:decide (1048576<num)=false:=by simpa using H
   have zai:num<=1048576:=Z;clear H;by_cases I:65536<c
   .exact Lf
   .have zJ:decide (65536<c)=false:=by simpa using I
    have zam:c<=65536:=Z;clear I;by_cases L:d<1
    .exact Lg
    .have zN:decide (d<1)=false:=by simpa using L
     have zaj:1<=d:=Z;clear L;by_cases O:16777216<d
     .exact Lh
     .have zP:decide (16777216<d)=false:=by simpa using O
      have zar:d<=16777216:=Z;clear O;by_cases P:e<1
      .exact Li
      .have zK:decide (e<1)=false:=by simpa using P
       have zan:1<=e:=Z;clear P;by_cases za:8388608<e
       .exact Lj
       .refine Lk ?_;clear za;intro zl zs zv zB;by_cases zc:2*num*e<3*c*d+32*num
        .exact Ll
        .refine Lm λzf zo=>?_;clear zc;have j:True:=trivial;go_wp2_with(clear j;refine qK ze rfl rfl rfl underlying24 rfl (Ap _) ?_)
         refine(KI _ F).mono ?_;rintro l zas ⟨rfl,G⟩;have zad:=h.S G U;have zaf:=zad.K';cases zE:gP F 64 with
         |false=>exact Ln
         |true=>
          have j:True:=trivial;go_wp2_with(clear j;refine qK zaf rfl rfl rfl underlying24 rfl (Ap _) ?_)
          refine(KI _ K).mono ?_;rintro l zal ⟨rfl,zr⟩;cases zw:gP K 64 with
          |false=>exact Lo
          |true=>exact Lp):u:=a
theorem tB(a:u:=by
 go_in;have j:True:=trivial;go_wp2_with(clear j;refine oK (r:=⟨f,b,num,c,zQ,d,e,F,K⟩) rfl rfl rfl ?_;intro zA zy g A zF;obtain⟨s,p,y,q,w,x,t⟩:=g.aQ;simp only at s p y q w x t)
 exact Yk):u:=a
theorem Lq(zj:aD)(zk:nd zj):Calls prog 37 #[ay zj] a λl z7=>l=.returned (.bool (aL zj))/\V [] a z7:=by
 obtain⟨f,b,num,c,zQ,d,e,F,K⟩:=zj;by_cases zq:f<16
 .have zac:decide (f<16)=true:=by simpa using zq
  exact tB
 .have zac:decide (f<16)=false:=by simpa using zq
  have zao:16<=f:=Z;clear zq;by_cases zp:64<f
  .have z6:decide (64<f)=true:=by simpa using zp
   exact tB
  .have z6:decide (64<f)=false:=by simpa using zp
   have zah:f<=64:=Z;clear zp;by_cases zG:¬f%16=0
   .have zae:(f%16 !=0)=true:=by simpa using zG
    have z8:(f%16==0)=false:=by simpa using zG
    exact tB
   .have zh:f%16=0:=Z;have zae:(f%16 !=0)=false:=by simpa using zh
    have z8:(f%16==0)=true:=by simpa using zh
    have zI:=Y zh;clear zG zh;by_cases zt:b<16
    .have zX:decide (b<16)=true:=by simpa using zt
     exact tB
    .have zX:decide (b<16)=false:=by simpa using zt
     have zak:16<=b:=Z;clear zt;by_cases zz:64<b
     .have zS:decide (64<b)=true:=by simpa using zz
      exact tB
     .have zS:decide (64<b)=false:=by simpa using zz
      have zap:b<=64:=Z;clear zz;by_cases zx:¬b%16=0
      .have zZ:(b%16 !=0)=true:=by simpa using zx
       have zV:(b%16==0)=false:=by simpa using zx
       exact tB
      .have zm:b%16=0:=Z;have zZ:(b%16 !=0)=false:=by simpa using zm
       have zV:(b%16==0)=true:=by simpa using zm
       have zL:=Y zm;clear zx zm;cases zQ with
       |true=>
        by_cases zC:¬b%32=0
        .have W:(b%32 !=0)=true:=by simpa using zC
         have zd:(b%32==0)=false:=by simpa using zC
         go_in;have j:True:=trivial;go_wp2_with(clear j;refine oK (r:=⟨f,b,num,c,true,d,e,F,K⟩) rfl rfl rfl ?_;intro zA zy g A zF;obtain⟨s,p,y,q,w,x,t⟩:=g.aQ;simp only at s p y q w x t)
         exact Lr
        .refine Ls ?_;clear zC;intro W zd zn D;go_in;refine fE λj zD=>?_;go_wp2_with(first|(clear j;refine oK (r:=⟨f,b,num,c,true,d,e,F,K⟩) rfl rfl rfl ?_;intro zA zy g A zF;obtain⟨s,p,y,q,w,x,t⟩:=g.aQ;simp only at s p y q w x t;have zb:=g.Ez;simp only at zb)|(clear zD;refine qK zb rfl rfl rfl underlying23 rfl Ao ?_))
         refine(K8 _ num c zk.num zk.den).mono ?_;refine Aq λQ E h k o m z n B u r=>?_;simp only at o m z n B u r;have ze:=h.An;simp only at ze;clear s p y q w x t;cases C:decide (ky num c)with
         |false=>exact Ar
         |true=>exact Lc
       |false=>
        have D:ck ((false=true->b%32=0)):=λi=>l';go_in;refine fE λj zD=>?_;go_wp2_with(first|(clear j;refine oK (r:=⟨f,b,num,c,false,d,e,F,K⟩) rfl rfl rfl ?_;intro zA zy g A zF;obtain⟨s,p,y,q,w,x,t⟩:=g.aQ;simp only at s p y q w x t;have zb:=g.Ez;simp only at zb)|(clear zD;refine qK zb rfl rfl rfl underlying23 rfl Ao ?_))
        refine(K8 _ num c zk.num zk.den).mono ?_;refine Aq λQ E h k o m z n B u r=>?_;simp only at o m z n B u r;have ze:=h.An;simp only at ze;clear s p y q w x t;cases C:decide (ky num c)with
        |false=>exact Ar
        |true=>exact Lc
theorem Lt(a:u:=by
 have K:ky num c:=by simpa using C
 have zA:1<=c:=K.1;have zM:=Y K;clear K C;by_cases J:num<1
 .exact Ld
 .have zH:decide (num<1)=false:=by simpa using J
  have zX:1<=num:=Z;clear J;by_cases H:1048576<num
  .exact Le
  .have zO:decide (1048576<num)=false:=by simpa using H
   have zC:num<=1048576:=Z;clear H;by_cases I:65536<c
   .exact Lf
   .have zJ:decide (65536<c)=false:=by simpa using I
    have zQ:c<=65536:=Z;clear I;by_cases L:d<1
    .exact Lg
    .have zN:decide (d<1)=false:=by simpa using L
     have zF:1<=d:=Z;clear L;by_cases O:16777216<d
     .exact Lh
     .have zP:decide (16777216<d)=false:=by simpa using O
      have z8:d<=16777216:=Z;clear O;by_cases P:e<1
      .exact Li
      .have zK:decide (e<1)=false:=by simpa using P
       have zS:1<=e:=Z;clear P;by_cases za:8388608<e
       .exact Lj
       .refine Lk ?_;clear za;intro zl zs zv zB;by_cases zc:2*num*e<3*c*d+32*num
        .exact Ll
        .refine Lm λzf zo=>?_;clear zc;go_wp2_with(refine qK q rfl rfl rfl underlying24 rfl (Ap _) ?_)
         refine(wo _ w).mono ?_;rintro l zac ⟨rfl,G⟩;have zy:=h.S G U;have zz:=zy.K';cases zE:gP w 64 with
         |false=>exact Ln
         |true=>
          go_wp2_with(refine qK zz rfl rfl rfl underlying24 rfl (Ap _) ?_)
          refine(wo _ zj).mono ?_;rintro l zG ⟨rfl,zr⟩;cases zw:gP zj 64 with
          |false=>exact Lo
          |true=>exact Lp):u:=a
theorem wv(s:aD)(t:nd s):Calls prog 39 #[ay s] a λl zu=>l=.returned (.bool (aL s))/\V [] a zu:=by
 obtain⟨f,b,num,c,zt,d,e,w,zj⟩:=s;go_in;go_wp2_with(refine oK (r:=⟨f,b,num,c,zt,d,e,w,zj⟩) rfl rfl rfl ?_;intro zZ zV g A zad;obtain⟨zb,x,zq,y,zh,zp,ze⟩:=g.aQ;simp only at zb x zq y zh zp ze)
 have F:=g.Ez;simp only at F;refine(Lb _ f).mono ?_;rintro l zx ⟨rfl,rfl⟩;cases zm:qM f with
 |false=>
  have j:¬(16<=f/\f<=64/\f%16=0):=by simpa[qM]using zm
  go_wp2_with fail
  go_ret;exact⟨aX Ending.returned (aX Value.bool (qL (λi=>j ⟨i.1,i.2.1,i.2.2.1⟩)).symm),A⟩
 |true=>
  have j:16<=f/\f<=64/\f%16=0:=by simpa[qM]using zm
  go_wp2_with fail
  refine(Lb _ b).mono ?_;rintro l zx ⟨rfl,rfl⟩;cases hH:qM b with
  |false=>
   have p:¬(16<=b/\b<=64/\b%16=0):=by simpa[qM]using hH
   go_wp2_with fail
   go_ret;exact⟨aX Ending.returned (aX Value.bool (qL (λi=>p ⟨i.2.2.2.1,i.2.2.2.2.1,i.2.2.2.2.2.1⟩)).symm),A⟩
  |true=>
   have p:16<=b/\b<=64/\b%16=0:=by simpa[qM]using hH
   have zae:=j.1;have zD:=j.2.1;have zI:=Y j.2.2;have z7:=p.1;have z6:=p.2.1;have zL:=Y p.2.2;clear zm hH j p;cases zt with
   |true=>
    by_cases zk:¬b%32=0
    .have W:(b%32 !=0)=true:=by simpa using zk
     have zd:(b%32==0)=false:=by simpa using zk
     go_wp2_with fail
     exact Lr
    .refine Ls ?_;clear zk;intro W zd zn D;go_wp2_with(refine qK F rfl rfl rfl underlying23 rfl Ao ?_)
     refine(K9 _ num c t.num t.den).mono ?_;refine Aq λQ E h k o m z n B u r=>?_;simp only at o m z n B u r;have q:=h.An;simp only at q;clear zb x zq y zh zp ze;cases C:decide (ky num c)with
     |false=>exact Ar
     |true=>exact Lt
   |false=>
    have D:ck ((false=true->b%32=0)):=λi=>l';go_wp2_with(refine qK F rfl rfl rfl underlying23 rfl Ao ?_)
    refine(K9 _ num c t.num t.den).mono ?_;refine Aq λQ E h k o m z n B u r=>?_;simp only at o m z n B u r;have q:=h.An;simp only at q;clear zb x zq y zh zp ze;cases C:decide (ky num c)with
    |false=>exact Ar
    |true=>exact Lt
namespace cr
section
variable {d:Qav}{j:Region.Mode}{c:Qak}{f:Qab}{t:N}{zu bV:af}
def As(f:Region.Mode)(b:Qak)(e bV:af):Bool:=bV.all λc=>match b[c]? with
 |some g=>e.all λd=>g.after.any λa=>Region.binds f a&&a.on==d
 |none=>false
theorem Yl{g bV:af}(n:As j c g bV=true){e b:Nat}{f:Qax}(l:e∈g)(k:c[b]? =some f)(i:∀a∈f.after,Region.binds j a=true->a.on≠e):b∉bV:=λp=>by have h:=ke.1 n b p;simp only[k]at h;have o:=ke.1 h e l;obtain⟨a,m,d⟩:=Array.any_eq_true'.1 o;simp only[dB,iz]at d;exact i a m d.1 d.2
def hx(h:Qav)(d:Region.Mode)(c:Qak)(bV:af)(g:N)(e:Qab):Nat->Array Bool->Act->World->Prop
 |0,q,b,a=>Region.ready d c q=[]/\e b a
 |Q+1,q,b,a=>(Region.ready d c q=[]->e b a)/\∀f∈Region.ready d c q,wpOp h c k4 f (λj i=>(f∉bV->V [] g i)/\hx h d c bV g e Q (q.setIfInBounds f true) j i) b a
theorem tC{a:N}(g:Region.ready j c q=[])(e:f b a):∀h,hx d j c bV t f h q b a
 |0=>⟨g,e⟩
 |_+1=>⟨λ_=>e,by rw[g];simp⟩
theorem Lu{h:Qaa}:∀(f:Nat)(g:Qaq)(b:Act)(a:N),hx d j c bV t (λb a=>h .normal b a) f g b a->wpAny d j c h f g b a
 |0,_,_,_,e=>e
 |f+1,_,_,_,e=>⟨e.1,λl i=>nH (λk n m=>Lu f _ k n m.2) (DR (e.2 l i))⟩
theorem Lv{l:Qab}(h:∀b a,f b a->l b a):∀(g:Nat)(i:Qaq)(b:Act)(a:N),hx d j c bV t f g i b a->hx d j c bV t l g i b a
 |0,_,_,_,e=>⟨e.1,h _ _ e.2⟩
 |g+1,_,_,_,e=>⟨λp=>h _ _ (e.1 p),λo m=>nH (λn q k=>⟨k.1,Lv h g _ n q k.2⟩) (e.2 o m)⟩
theorem Lw(zd:As j c zu bV=true)(ze:l∈zu){za:Qax}{v:Qas}(u:c[l]? =some za)(K:Region.noSelect c=true):∀(H:Nat)(b:Qaq)(x:Act)(m:N),Shut j c b->(∀a g,c[a]? =some g->a≠l->b.getD a true=false->(∀h∈g.after,Region.binds j h=true->h.on≠l)->za.apart c g=true)->l∈Region.ready j c b->V [] t m->YieldsIf d c (V [] t) za v x->hx d j c bV t f H (b.setIfInBounds l true) (x.put za.dst v) m->hx d j c bV t f (H+1) b x m:=by
 intro H;induction H with
 |zero=>
  intro b x m _ _ n G p o;refine⟨λw=>tf,λa q=>?_⟩;by_cases e:a=l
  .subst e;exact p.wpOp u G ⟨λ_=>G,o⟩
  .exact DS
 |succ H zc=>
  intro b x m zb J n G p o;have y:=(mem_ready.1 n).1;refine⟨λw=>tf,λa q=>?_⟩;by_cases e:a=l
  .subst e;exact p.wpOp u G ⟨λ_=>G,o⟩
  .refine DT λr s g z D E B=>?_;refine DU λC=>?_;have L:a∉bV:=Yl zd ze z E;refine nH (λzh zk I=>⟨λ_=>I.2.1 L,zc (b.setIfInBounds a true) zh zk (zb.set q) C (qw n (hv e)) (I.2.1 L) I.1 ?_⟩) B;rw[tg _ _ e];exact I.2.2
theorem Lx(C:As j c zu bV=true)(B:Region.noSelect c=true){g:Qal}(zk:g.toArray=c):∀(p:af)(b:Nat)(a:Qaq)(r:Qaj)(q:Act),(∀k∈p,k∈zu)->Shut j c a->rR j c p a=true->ba (bA []) d c (hx d j c bV t f b (wg p a)) 0 (ga g p) r q t->hx d j c bV t f (p.length+b) a q t
 |[],b,a,r,q,_,_,_,e=>by rw[dv,c'];exact e
 |k::o,b,a,r,q,A,x,u,e=>by simp only[rR,dB,mX]at u;obtain⟨w,i,G,u⟩:=u;refine Km λn h i z s y m=>?_;simp only[ga,n,h,m,ba,true_or,eB]at e;obtain⟨v,H,e⟩:=e;rw[cz,show o.length+1+b=(o.length+b)+1 from Z];exact Lw C (A _ U) y B _ _ _ _ x (λL O K I E F=>vV y G L O K I E F) i (V.refl _ _) (by simpa[h9,bA]using H) (Lx C B zk o b _ r _ (λJ l=>A J pv) (x.set i) u e)
theorem jt{l:Nat}{h:N}(e:Nat)(m:af)(i:Region.ready j c q=e::m)(p:∀a∈e::m,wpOp d c k4 a (λn g=>(a∉bV->V [] t g)/\hx d j c bV t f l (q.setIfInBounds a true) n g) b h):hx d j c bV t f (l+1) q b h:=⟨λk=>(by rw[i]at k;cases k),λa o=>p a (by rw[<-i];exact o)⟩
theorem nN{i:Nat}{h:Qax}{g:N}(p:c[l]? =some h)(m:∀k:Qab,(∀e a,(l∉bV->V [] t a)->hx d j c bV t f i (q.setIfInBounds l true) e a->k e a)->wpList d c (Nm k) [h] b g):wpOp d c k4 l (λe a=>(l∉bV->V [] t a)/\hx d j c bV t f i (q.setIfInBounds l true) e a) b g:=Kn p (m _ λ_ _ n o=>⟨n,o⟩)
theorem tD{k a:Nat}{l:Qax}{h:N}(n:Region.ready j c q=[a])(o:c[a]? =some l)(m:∀i:Qab,(∀g e,(a∉bV->V [] t e)->hx d j c bV t f k (q.setIfInBounds a true) g e->i g e)->wpList d c (Nm i) [l] b h):hx d j c bV t f (k+1) q b h:=jt a [] n (bf.2 ⟨nN o m,U⟩)
theorem Au{g:Qaa}{c:N}(a bV:af)(f:Nat)(k:As .any s.toArray a bV=true)(o:d.follows .mixedOrders=true)(n:Region.noSelect s.toArray=true)(h:rR .any s.toArray a (Array.replicate s.toArray.size false)=true)(i:a.length+f=s.toArray.size) (e:ba (bA []) d s.toArray (hx d .any s.toArray bV c.drew (λj m=>g .normal j m) f (wg a (Array.replicate s.toArray.size false))) 0 (ga s a) [(0,c.heap.size)] b c.drew):(Code.region zw s.toArray true).wp d g b c:=by refine y0 o (Lu (bV:=bV) (t:=c.drew) _ _ _ _ ?_);have l:=Lx k n rfl a f _ _ b (λ_ e=>e) (D2 _) h e;rwa[i]at l
theorem Ym{g:Nat}{e:N}(i:bU)(l:∀a,i a->f zo a)(m:hx d j c bV t (λk a=>k=zo/\i a) g q b e):hx d j c bV t f g q b e:=Lv (λ_ a h=>h.1▸l a h.2) g q b e m
end
end cr
theorem Av(b:aD)(a:Nat):(ay b)[a]? =if a<7 then(da b)[a]? else if a<71 then some (.int .u8 (b.a (a-7)))else if a<135 then some (.int .u8 (b.b (a-71)))else none:=by
 simp only[ay,b4,cO];by_cases c:a<7
 .rw[ae c,eE wt]
 .rw[M c,db wt];have f:(da b).length=7:=by simp[da]
  rw[f];by_cases d:a<71
  .rw[ae d,eE EC];simp[gE,show a-7<64 from Z]
  .rw[M d,db EC,iy];by_cases e:a<135
   .rw[ae e];rw[show a-7-64=a-71 from Z];simp[gE,show a-71<64 from Z]
   .rw[M e,fN EC]
theorem Yn(e:aD)(a:Nat)(v:Int)(g:a<64):(ay e).setIfInBounds (7+a) (.int .u8 v)=ay {e with a:=aV e.a a v}:=by
 apply kc;intro d;rw[qu,Av,Av,gr];by_cases f:7+a=d
 .subst f;rw[ae rfl,ae Z,M Z,ae Z];simp[aV]
 .rw[M f];by_cases b:d<7
  .rw[ae b,ae b];rfl
  .rw[M b,M b];by_cases c:d<71
   .rw[ae c,ae c];simp[aV,show d-7≠a from Z]
   .rw[M c,M c]
theorem Yo(f:aD)(b:Nat)(v:Int)(h:b<64):(ay f).setIfInBounds (71+b) (.int .u8 v)=ay {f with b:=aV f.b b v}:=by
 apply kc;intro a;rw[qu,Av,Av,gr];by_cases g:71+b=a
 .subst g;rw[ae rfl,ae Z,M Z,M Z,ae Z];simp[aV]
 .rw[M g];by_cases c:a<7
  .rw[ae c,ae c];rfl
  .rw[M c,M c];by_cases d:a<71
   .rw[ae d,ae d]
   .rw[M d,M d];by_cases e:a<135
    .rw[ae e,ae e];simp[aV,show a-71≠b from Z]
    .rw[M e,M e]
section
open Go.ChangeShapes Go.WideShapes
theorem Ly{α:Type}(d:α->List Value)(a:Nat)(h:0<a)(f:∀c,(d c).length=a):∀(e:List α)(b:Nat),(e.flatMap d)[b]? =(e[b/a]?).bind λc=>(d c)[b%a]?
 |[],b=>U
 |c::e,b=>by
  rw[List.flatMap_cons];by_cases g:b<a
  .rw[eE (by rw[f];exact g),rZ g,r0 g];simp
  .rw[db (by rw[f];omega),f,Ly d a h f e (b-a)];have i:b/a=(b-a)/a+1:=by rw[Nat.div_eq_sub_div h Z]
   have j:b%a=(b-a)%a:=Nat.mod_eq_sub_mod Z;rw[i,j];simp
structure bi where
 a:Int
 b:Int
 c:Int
 d:Int
def hg(a:bi):Qam:=[.int .i64 a.a,.int .i64 a.b,.int .i64 a.c,.int .i64 a.d]
def jO(a:List bi):Qam:=a.flatMap hg
theorem Yp(a:bi):(hg a).length=4:=rfl
theorem Yq(b a:List bi):jO (b++a)=jO b++jO a:=by simp[jO]
theorem Yr{c:List bi}{b:bi}(e:c[l]? =some b):(jO c)[l*4]? =some (.int .i64 b.a)/\(jO c)[l*4+1]? =some (.int .i64 b.b)/\(jO c)[l*4+2]? =some (.int .i64 b.c)/\(jO c)[l*4+3]? =some (.int .i64 b.d):=by
 have d:∀a,a<4->(jO c)[l*4+a]? =(hg b)[a]? :=by intro a f;unfold jO;rw[Ly hg 4 Z Yp,show(l*4+a)/4=l from Z,show(l*4+a)%4=a from Z,e];rfl
 exact⟨d 0 Z,d 1 Z,d 2 Z,d 3 Z⟩
theorem aF.un{d:N}{i:Qae}{f:List bi}{c:bi}(k:aF d i 4 g (jO f))(q:f.length=g)(h:f[l]? =some c):∃b a,i=some ⟨b,a,none⟩/\d.cell? ⟨b,a+l*4,none⟩=some (.int .i64 c.a)/\d.cell? ⟨b,a+l*4+1,none⟩=some (.int .i64 c.b)/\d.cell? ⟨b,a+l*4+2,none⟩=some (.int .i64 c.c)/\d.cell? ⟨b,a+l*4+3,none⟩=some (.int .i64 c.d):=by have p:l<f.length:=(e8.1 h).1;obtain⟨b,a,rfl,e⟩:=k.plain Z Z;obtain⟨m,n,o,j⟩:=Yr h;exact⟨b,a,rfl,e _ _ m,e _ _ n,e _ _ o,e _ _ j⟩
end
theorem Ys:kz 56 (.agg (hg ⟨0,0,0,0⟩).toArray) 4 32:=k7
theorem Yt(g:0<r)(a cells:Qad)(i:a.size=r)(d:cells.size=r):Instr.fill (λh=>some (h*r,r)) cells [(0,.agg a)]=some a:=by
 obtain⟨k,f,l,j⟩:=Go.Great.fill_dense g [.agg a] 0 cells (by simp[Value.cells,i]) r1;rw[show((List.zipIdx [Value.agg a] 0).map λb=>(b.2,b.1))=[(0,.agg a)]from rfl]at f;rw[f];congr 1;apply kc;intro c;rw[j c];by_cases e:c<r
 .rw[ae kf,rZ e,r0 e];simp[Value.cells]
 .rw[M kf,hP Z,hP Z]
theorem Lz{a:Qax}{h:N}(p:a.guard=none)(k g:Qat)(l:Qau)(w:a.op=.buildSlice k 1 #[(0,l)])(t:b.eval l=i) (e:TypeInfo) (j:Qas) (y:d.underlying k=some (.slice g)) (s:d.info? g=some e) (u:e.zero=some j) (q:e.size=r) (o:i.size=r) (z:j.cells.size=r) (x:0<r/\r<=1000) (n:wpList d c f m (b.put a.dst (.slice (some ⟨h.heap.size,0,none⟩) 1 1)) (h.alloc (.cells i g))):wpList d c f (a::m) b h:=by subst q;refine wpList_buildSlice p k g 1 _ w i e j y s u Z Z ?_ n;simp only[gm,cj,ee,t];exact Yt x.1 _ _ o U
section
open Go.ChangeAt Go.ChangeShapes Go.WideShapes
section
variable {d:Qav}{a:N}{o:Reach}{A:Nat}{I:Qat}{v:Qas}
theorem ED{e:Qaw}(b:d.underlying I=some (.int e))(c:Cell.okWide d a o A I v):∃f,v=.int e f/\e.has f:=by exact EE
theorem Aw(b:d.underlying I=some .bool)(c:Cell.okWide d a o A I v):∃e,v=.bool e:=by exact EE
end
theorem Yu{a:Int}(b:IntKind.i64.has a):js a:=by simpa[IntKind.has,IntKind.min,IntKind.max,IntKind.signed,IntKind.bits,js]using b
theorem Yv{a:Int}(b:IntKind.u8.has a):0<=a/\a<=255:=by simpa[IntKind.has,IntKind.min,IntKind.max,IntKind.signed,IntKind.bits]using b
def oL:List TypeId:=[3,3,2,2,4,3,3]++List.replicate 128 5
theorem LA{a:Prop}(b:a)(c:a->u:=by intro W;rw[e]at g;obtain rfl:=mc g;obtain⟨c,rfl,d⟩:=ED W n;exact⟨c,q,Yu d⟩):u:=c b
theorem Yw{C:N}{L:Reach}{O:Nat}(at_:∀a,a<135->∃j h,i[a]? =some j/\oL[a]? =some h/\Cell.okWide prog C L O h j):∃m:aD,(∀a,a<135->i[a]? =(ay m)[a]?)/\nd m/\hT m.a/\hT m.b:=by
 have i64:∀a,a<135->(oL[a]? =some 3\/oL[a]? =some 2)->∃c,i[a]? =some (.int .i64 c)/\js c:=by
  intro a k e;obtain⟨j,h,q,g,n⟩:=at_ a k;rcases e with e|e
  .exact LA underlying3
  .exact LA underlying2
 have B:∀a,7<=a->a<135->∃c,i[a]? =some (.int .u8 c)/\0<=c/\c<=255:=by
  intro a w k;obtain⟨j,h,q,g,n⟩:=at_ a k;have e:oL[a]? =some 5:=by unfold oL;rw[db (by simpa using w),wx,ae aw]
  rw[e]at g;obtain rfl:=mc g;obtain⟨c,rfl,d⟩:=ED underlying5 n;exact⟨c,q,Yv d⟩
 obtain⟨s,G,D⟩:=i64 0 Z (.inl rfl);obtain⟨z,zd,zb⟩:=i64 1 Z (.inl rfl);obtain⟨y,P,I⟩:=i64 2 Z (.inr rfl);obtain⟨A,ze,Q⟩:=i64 3 Z (.inr rfl);obtain⟨r,K,zc⟩:=i64 5 Z (.inl rfl);obtain⟨t,H,E⟩:=i64 6 Z (.inl rfl);obtain⟨zh,hg,za,x,F⟩:=at_ 4 Z;have J:oL[4]? =some 4:=rfl;rw[J]at x;obtain rfl:=mc x;obtain⟨u,rfl⟩:=Aw underlying4 F;have o:∀b,b<128->i[7+b]? =some (.int .u8 (intOf (i.getD (7+b) undef)))/\0<=intOf (i.getD (7+b) undef)/\intOf (i.getD (7+b) undef)<=255:=by
  intro b l;obtain⟨c,d,zf⟩:=B (7+b) Z Z;have p:i.getD (7+b) undef=.int .u8 c:=by simp[d]
  rw[p];exact⟨d,zf⟩
 refine⟨⟨s,z,y,A,u,r,t,λb=>intOf (i.getD (7+b) undef),λb=>intOf (i.getD (7+(64+b)) undef)⟩,?_,⟨D,zb,I,Q,zc,E⟩,λb l=>(o b Z).2,λb l=>(o (64+b) Z).2⟩;intro a k
 .by_cases w:a<7
  .have:a=0\/a=1\/a=2\/a=3\/a=4\/a=5\/a=6:=Z;rcases this with rfl|rfl|rfl|rfl|rfl|rfl|rfl
   .rw[G];simp[ay,cO,da]
   .rw[zd];simp[ay,cO,da]
   .rw[P];simp[ay,cO,da]
   .rw[ze];simp[ay,cO,da]
   .rw[za];simp[ay,cO,da]
   .rw[K];simp[ay,cO,da]
   .rw[H];simp[ay,cO,da]
  .obtain⟨b,rfl⟩:∃b,a=7+b:=⟨a-7,Z⟩;rw[(o b Z).1];simp only[ay,b4,cO];rw[db (by simp[da])];by_cases l:b<64
   .rw[eE EA];simp[da,gE,l]
   .obtain⟨f,rfl⟩:∃f,b=64+f:=⟨b-64,Z⟩;rw[db (by rw[iy];simp[da]),iy];have p:7+(64+f)-(da ⟨s,z,y,A,u,r,t,λb=>intOf (i.getD (7+b) undef),λb=>intOf (i.getD (7+(64+b)) undef)⟩).length-64=f:=by simp[da]
    rw[p];simp[gE,show f<64 from Z]
end
