import Derived.Test.YtdmdbgabjcbjiaaGreatDoorA05
set_option maxHeartbeats 0
set_option maxRecDepth 100000
set_option linter.all false
namespace Go.Proofs.YtdmdbgabjcbjiaaGreatDoor
open Go.RowKit fD cr hs a7 _root_.Go.Proofs.Tryz
variable{a b:Prop}
theorem aby:∃a,prog.info? 4=some a:=tm.1 ar
theorem abz{d:Qav}(e:N)(j c:Qat)(b:Nat)(n:TypeInfo)(h f:Nat->Bool)(g i:Qad)(o:d.underlying j=some (.array b c))(l:d.underlying c=some .bool)(m:d.info? c=some n)(k:d.cellsOf c=1)(p:∀a,a<b->g[a]? =some (.bool (h a)))(q:∀a,a<b->i[a]? =some (.bool (f a))):(Op.equalIn 10000 j (g) (i)).run d e=.ok ((List.range b).all λa=>h a==f a) e:=by rw[show(10000:Nat)=9998+1+1 from rfl,DO e 9999 _ _ o m,ND e 9998 c b h f g i l k p q _ U]
def WJ(a:aj):Qad:=#[.bool (a 18 !=0),.bool (a 19 !=0),.bool (a 20 !=0),.bool (a 21 !=0),.bool (a 22 !=0),.bool (a 23 !=0)]
theorem abA(a:aj)(d:N):(Op.equalIn 10000 229 (.agg #[.bool (a 18 !=0),.bool (a 19 !=0),.bool (a 20 !=0),.bool (a 21 !=0),.bool (a 22 !=0),.bool (a 23 !=0)]) (.agg #[.bool false,.bool false,.bool false,.bool false,.bool false,.bool false])).run prog d=.ok (!(a 18 !=0||a 19 !=0||a 20 !=0||a 21 !=0||a 22 !=0||a 23 !=0)) d:=by obtain⟨f,e⟩:=aby;rw[abz d 229 4 6 f (λb=>a (18+b) !=0) (λ_=>false) _ _ underlying229 underlying4 e ar (λb c=>Gl) (λb c=>Gl)];simp[List.range,List.range.loop,Bool.and_assoc,Bool.not_or]
theorem abB(a:aj)(b:N):(binOp .neq 229 (.agg #[.bool (a 18 !=0),.bool (a 19 !=0),.bool (a 20 !=0),.bool (a 21 !=0),.bool (a 22 !=0),.bool (a 23 !=0)]) (.agg #[.bool false,.bool false,.bool false,.bool false,.bool false,.bool false])).run prog b=.ok (.bool (a 18 !=0||a 19 !=0||a 20 !=0||a 21 !=0||a 22 !=0||a 23 !=0)) b:=by rw[run_neq_struct,abA];simp
theorem uy(a:N):(sizeOf 4).run prog a=.ok 1 a:=ar
theorem uz(a:aj)(b:Nat)(d:b<6)(c:N):(Instr.index 229 (.agg #[.bool (a 18 !=0),.bool (a 19 !=0),.bool (a 20 !=0),.bool (a 21 !=0),.bool (a 22 !=0),.bool (a 23 !=0)]) (X b)).run prog c=.ok (.bool (a (18+b) !=0)) c:=n2 c _ _ 6 _ _ _ underlying229 underlying4 rfl uy .i64 b d (by match b,d with|0,_=>rfl|1,_=>rfl|2,_=>rfl|3,_=>rfl|4,_=>rfl|5,_=>rfl)
theorem Ou(c:aj)(e:N):(binOp .eql 230 (an .i64 64 c) (.agg (an .i64 64 λ_=>0))).run prog e=.ok (.bool (h8 64 c λ_=>0)) e:=by refine Aj 3 λd b a=>?_;exact DN e _ _ .i64 64 b c _ underlying230 underlying3 a ar
theorem Gm:dJ 226 (.agg #[X 0,X 0,X 0,X 0]):=dM
theorem xi:dJ 175 (.agg #[X 0,X 0]):=dM
theorem BS(c:N)(g:Nat)(a:aj)(h:ag c g 233 (ap a)):Calls prog 222 #[ab g] c λl m=>l=.returned (.bool (ea a))/\V [] c m:=by
 have f:=Y h;clear h;unfold ea;have n:=abB a;by_cases d:a 0=1
 .have e:(a 0==1)=true:=nj;have b:=ao.nil [] c;go_in;have i:=jx (f.out.S b.aa U) 0;go_wp2_with fail
  go_ret;exact⟨by rw[e];rfl,b.aa⟩
 .have e:(a 0==1)=false:=nj;have b:=ao.nil [] c;go_in;have i:=jx (f.out.S b.aa U) 0;go_wp2_with(refine de (#[.bool (a 18 !=0),.bool (a 19 !=0),.bool (a 20 !=0),.bool (a 21 !=0),.bool (a 22 !=0),.bool (a 23 !=0)]) rfl nl (f.out.S b.aa U) (λj k=>q3) rfl rfl ?_)
  go_ret;refine⟨?_,b.aa⟩;rw[e,tj];rfl
theorem Ov(b:a:=by
 have b:=ao.nil [] a;go_in;go_wp2_with(refine cx _ (bl f) rfl rfl rfl rfl ?_;intro w t g j i;replace b:=b.aP g j i;clear g j;clear i)
 refine xj l.out ?_;clear b;intro H I b;go_wp2_with(refine dO rfl (b.ai 0 rfl) (cE _) rfl rfl ?_)
 refine hD p.out ?_;clear b;intro J z b;have k:=jx (h.out.S b.aa U) 17;go_wp2_with fail
 exact NG y.out):a:=b
theorem abC(a:N)(f:aY)(n:Nat)(c:aj)(q:ag a n 233 (ap c))(F:c 17=0)(u:c 4≠0->f.both=true/\ea c=true):Calls prog 183 #[bl f,ab n] a λe D=>e=.returned (.bool true)/\V [] a D:=by
 have h:=Y q;clear q;have l:=Y λa(q:ag a n 233 (ap c))=>BS a n c q;have p:=Y λa=>uo a f;have y:=Y λa=>uq a 0 30 R R R R;have r:(c 4 !=0)=false\/((c 4 !=0)=true/\f.both=true/\ea c=true):=by
  by_cases d:c 4=0
  .exact .inl nj
  .exact .inr ⟨nj,u d⟩
 clear u;rcases r with r|⟨r,E,C⟩
 .cases s:ea c
  .rw[s]at l;have b:=ao.nil [] a;go_in;go_wp2_with(refine cx _ (bl f) rfl rfl rfl rfl ?_;intro w t g j i;replace b:=b.aP g j i;clear g j;clear i)
   refine xj l.out ?_;clear b;intro H I b;have k:=kF (h.out.S b.aa U) 4;have x:=jx (h.out.S b.aa U) 17;exact ft
  .rw[s]at l;cases B:f.both
   all_goals rw[B]at p
   .have b:=ao.nil [] a;go_in;go_wp2_with(refine cx _ (bl f) rfl rfl rfl rfl ?_;intro w t g j i;replace b:=b.aP g j i;clear g j;clear i)
    refine xj l.out ?_;clear b;intro H I b;go_wp2_with(refine dO rfl (b.ai 0 rfl) (cE _) rfl rfl ?_)
    refine hD p.out ?_;clear b;intro J z b;have k:=kF (h.out.S b.aa U) 4;have x:=jx (h.out.S b.aa U) 17;go_wp2_with fail
    refine ur y.out ?_;clear b;intro o m b;clear k x;exact ft
   .exact Ov
 .rw[E]at p;rw[C]at l;exact Ov
theorem Ow(b:a:=by exact⟨⟨a+1,Z,a8,Y b⟩,bF⟩):a:=b
theorem abD(d:N)(m:Nat)(f:aj)(o:ag d m 233 (ap f))(h:∀c,24<=c->c<408->-4095<=f c/\f c<=4095):Calls prog 184 #[ab m] d λk q=>k=.returned (.bool true)/\V [] d q:=by
 have w:=Y o;clear o;have x:=Y λd(a c:Nat)(t:a<6)(u:c<64)=>uq d (bO f a c) 4095 R R (h (24+64*a+c) Z Z).1 (h (24+64*a+c) Z Z).2;clear h;have b:=ao.nil [] d;go_in;go_wp2_with fail
 have g:=Y b;clear b;go_loopw [6] (λe wr=>∃a:Nat,a<=6/\e=X a/\Hid (ao [] d wr [])) (λe _=>6-(intOf e).toNat)
 .exact⟨0,Z,rfl,g⟩
 .obtain⟨a,t,rfl,n⟩:=hrel;clear g;have b:=n.out;clear n;by_cases l:a<6
  .have r:(a:Int)<6:=Z;go_wp2_with(refine de (an .i64 64 (bO f a)) rfl (a64 _) (w.out.S b.aa U) (so a l) rfl rfl ?_)
   have g:=Y b;clear b;go_loopw [15] (λe wr=>∃c:Nat,c<=64/\e=X c/\Hid (ao [] d wr [])) (λe _=>64-(intOf e).toNat)
   .exact⟨0,Z,rfl,g⟩
   .obtain⟨c,u,rfl,i⟩:=hrel;clear g;have b:=i.out;clear i;by_cases j:c<64
    .have s:(c:Int)<64:=Z;have A:=λp=>oJ (bO f a) c j p;go_wp2_with fail
     refine(x.out _ a c l j).mono ?_;rintro k z ⟨rfl,y⟩;replace b:=b.aS y;go_wp2_with fail
     exact⟨⟨c+1,Z,a8,Y b⟩,bF⟩
    .have s:¬((c:Int)<64):=Z;go_wp2_with fail
     exact Ow
  .have r:¬((a:Int)<6):=Z;exact ft
theorem abE(e:N)(o:Nat)(c:aj)(t:ag e o 233 (ap c))(g:∀a,a<6->(c (18+a)=0↔∀j,j<64->bO c a j=0)):Calls prog 186 #[ab o] e λd x=>d=.returned (.bool true)/\V [] e x:=by
 have p:=Y t;clear t;have A:=Y λ(a:Nat)(m:a<6)=>show((c (18+a) !=0)=true/\h8 64 (bO c a) (λ_=>0)=false)\/((c (18+a) !=0)=false/\h8 64 (bO c a) (λ_=>0)=true) by
  by_cases d:c (18+a)=0
  .exact .inr ⟨by simp[d],WQ ((g a m).1 d)⟩
  .refine .inl ⟨by simp[d],?_⟩;cases q:h8 64 (bO c a) (λ_=>0)
   .rfl
   .exact absurd ((g a m).2 (te.1 q)) d
 clear g;have b:=ao.nil [] e;go_in;go_wp2_with(refine de (#[.bool (c 18 !=0),.bool (c 19 !=0),.bool (c 20 !=0),.bool (c 21 !=0),.bool (c 22 !=0),.bool (c 23 !=0)]) rfl nl (p.out.S b.aa U) (λj k=>q3) rfl rfl ?_)
 have s:=Y b;clear b;go_loopw [9] (λh wr=>∃a:Nat,a<=6/\h=X a/\Hid (ao [] e wr [])) (λh _=>6-(intOf h).toNat)
 .exact⟨0,Z,rfl,s⟩
 .obtain⟨a,m,rfl,r⟩:=hrel;clear s;have b:=r.out;clear r;by_cases i:a<6
  .have y:(a:Int)<6:=Z;have w:=λf=>uz c a i f;have z:=λf=>Ou (bO c a) f;have u:((c (18+a) !=0)=true/\h8 64 (bO c a) (λ_=>0)=false)\/((c (18+a) !=0)=false/\h8 64 (bO c a) (λ_=>0)=true):=A.out a i;rcases u with⟨n,l⟩|⟨n,l⟩
   all_goals
    rw[l]at z;rw[n]at w;clear l;go_wp2_with(first|(refine de (an .i64 64 (bO c a)) rfl (a64 _) (p.out.S b.aa U) (so a i) rfl rfl ?_)|(refine tv rfl rfl ?_))
    exact Ow
  .have y:¬((a:Int)<6):=Z;exact ft
theorem abF(a:N):(binOp .eql 226 (.agg #[X 0,X 0,X 0,X 0]) (.agg #[X 0,X 0,X 0,X 0])).run prog a=.ok (.bool true) a:=ar
theorem abG(a:N):(binOp .neq 225 (.agg #[X 0,X 0]) (.agg #[X 0,X 0])).run prog a=.ok (.bool false) a:=ar
theorem abH(a:N):(binOp .eql 175 (.agg #[X 0,X 0]) (.agg #[X 0,X 0])).run prog a=.ok (.bool true) a:=ar
theorem Ox(c h d j g b e:Nat)(f:bj c->bj h->bj d->bj j->bj g->bj b->bj e->a:=by
 intro C B y x zi s r;have h:=Y za;clear za;have ze:=Y λu(za:ag u Q 233 (ap a))=>FQ u D Q a za;have zK:=Y λu=>BA u (a C) (a B) (t.v 0 R).1 (t.v 0 R).2 (t.v 1 R).1 (t.v 1 R).2;have zI:=Y λu=>BA u (a y) (a x) (t.v 2 R).1 (t.v 2 R).2 (t.v 3 R).1 (t.v 3 R).2;by_cases E:a zi=0
 .have zO:(a zi !=0)=false:=by simp[E]
  have zW:∀A,(binOp .eql 226 (.agg #[X (a C),X (a B),X (a y),X (a x)]) (.agg #[X 0,X 0,X 0,X 0])).run prog A=.ok (.bool true) A:=λA=>by rw[(t.off E).1 0 R,(t.off E).1 1 R,(t.off E).1 2 R,(t.off E).1 3 R];exact abF A
  have zV:∀A,(binOp .eql 175 (.agg #[X (a s),X (a r)]) (.agg #[X 0,X 0])).run prog A=.ok (.bool true) A:=λA=>by rw[(t.off E).2 0 R,(t.off E).2 1 R];exact abH A
  clear t E;have b:=ao.nil [] u;go_in;go_wp2_with(refine cx _ (bl D) rfl rfl rfl rfl ?_;intro zt zc L P O;replace b:=b.aP L P O;clear L P;clear O)
  refine Gn ?_;clear b;intro b;simp only[ga,nth,Nat.reduceMod,Nat.reduceDiv,cz,dv,c'];refine Gp ?_;simp only[Act.put,cb,cK,cQ];refine Gq ?_;simp only[Act.put,cb,cK,cQ];refine ax ?_;have c:=V.refl [] zc.drew;refine w0 9 10 226 175 (#[X (a C),X (a B),X (a y),X (a x)]) (#[X (a s),X (a r)]) (λzl zo H K=>?_) ?_;rotate_left;repeat' (first|(refine gb (l:=12) rfl λp f=>?_;(try have zp:=n.lt);have zv:=c.size;refine cw _ (#[X 0,X 0,X 0,X 0]) rfl rfl Gm rfl ?_;intro aA F l g zr;(try replace n:=n.S g U);replace c:=c.ad g;refine f _ _ c ?_;clear f p;simp only[Act.put,cb,cK,cQ])|(refine gb (l:=13) rfl λp f=>?_;(try have zu:=l.lt);have zm:=c.size;refine cw _ (#[X 0,X 0]) rfl rfl xi rfl ?_;intro zd F n g zq;(try replace l:=l.S g U);replace c:=c.ad g;refine f _ _ c ?_;clear f p;simp only[Act.put,cb,cK,cQ])|(refine gb (l:=14) rfl λp f=>?_;refine cv (Q:=#[X (a C),X (a B),X (a y),X (a x)]) n1 l rfl fy rfl rfl rfl rfl ?_;intro F (w:ag _ _ _ (#[X (a C),X (a B),X (a y),X (a x)])) g zb;replace c:=c.own g Z;(try replace n:=n.S g aw);replace l:=w;clear w;refine f _ _ c ?_;clear f p;try simp only[Act.put,cb,cK,cQ])|(refine gb (l:=15) rfl λp f=>?_;refine cv (Q:=#[X (a s),X (a r)]) mx n rfl fy rfl rfl rfl rfl ?_;intro F (w:ag _ _ _ (#[X (a s),X (a r)])) g zb;replace c:=c.own g Z;(try replace l:=l.S g aw);replace n:=w;clear w;refine f _ _ c ?_;clear f p;try simp only[Act.put,cb,cK,cQ])|refine c8 12 [13] bm (bf.2 ⟨?_,bf.2 ⟨?_,U⟩⟩)|refine c8 12 [15] bm (bf.2 ⟨?_,bf.2 ⟨?_,U⟩⟩)|refine c8 13 [14] bm (bf.2 ⟨?_,bf.2 ⟨?_,U⟩⟩)|refine c8 14 [15] bm (bf.2 ⟨?_,bf.2 ⟨?_,U⟩⟩)|refine c8 12 [] bm (bf.2 ⟨?_,U⟩)|refine c8 13 [] bm (bf.2 ⟨?_,U⟩)|refine c8 14 [] bm (bf.2 ⟨?_,U⟩)|refine c8 15 [] bm (bf.2 ⟨?_,U⟩)|(refine rQ bm ?_ _;exact⟨aA,zd,⟨l,n,c,Z,Z,Z⟩,rfl⟩))
  simp only[Act.put,cb,cK,cQ];replace b:=b.two K;clear K;go_wp2_with(first|(refine dO rfl (b.ai 0 rfl) n1 rfl rfl ?_)|(refine dO rfl (b.ai 1 rfl) mx rfl rfl ?_))
  go_ret;exact⟨rfl,b.aa⟩
 .have zO:(a zi !=0)=true:=by simp[E]
  have zw:=t.Fs 0 R;have zs:=t.Fs 1 R;have W:(a s !=0)=false\/((a s !=0)=true/\(a s !=1)=false):=by
   rcases zw with e|e
   .exact .inl (by show(a s !=0)=false;rw[show a s=0 from e];rfl)
   .exact .inr ⟨by show(a s !=0)=true;rw[show a s=1 from e];rfl,by rw[show a s=1 from e];rfl⟩
  have zf:(a r !=0)=false\/((a r !=0)=true/\(a r !=1)=false):=by
   rcases zs with e|e
   .exact .inl (by show(a r !=0)=false;rw[show a r=0 from e];rfl)
   .exact .inr ⟨by show(a r !=0)=true;rw[show a r=1 from e];rfl,by rw[show a r=1 from e];rfl⟩
  have zF:((a 3 !=0)=false/\(a r !=0)=false/\(∀A,(binOp .neq 225 (.agg #[X (a y),X (a x)]) (.agg #[X 0,X 0])).run prog A=.ok (.bool false) A)/\(D.field=true\/(D.field=false/\(a s !=0)=false)))\/(a 3 !=0)=true:=by
   by_cases q:a 3=0
   .obtain⟨zH,zG,zM⟩:=t.one E q;refine .inl ⟨oT,by show(a r !=0)=false;rw[show a r=0 from zM];rfl,λA=>by rw[show a y=0 from zH,show a x=0 from zG];exact abG A,?_⟩;by_cases zj:D.s=3
    .refine .inr ⟨by unfold aY.field;rw[zj];rfl,by rw[show a s=0 from t.A8 E q zj];rfl⟩
    .exact .inl (by unfold aY.field;simp[zj])
   .exact .inr oT
  clear t E zw zs;rcases zF with⟨zh,zf,zX,zR⟩|zh
  .rw[zh]at ze;rcases zR with zk|⟨zk,W⟩
   all_goals (try rcases W with W|⟨W,zD⟩)
   all_goals (rw[zk]at ze)
   all_goals
    have b:=ao.nil [] u;go_in;go_wp2_with(refine cx _ (bl D) rfl rfl rfl rfl ?_;intro zt zc L P O;replace b:=b.aP L P O;clear L P;clear O)
    refine Gn ?_;clear b;intro b;simp only[ga,nth,Nat.reduceMod,Nat.reduceDiv,cz,dv,c'];refine Gp ?_;simp only[Act.put,cb,cK,cQ];refine Gq ?_;simp only[Act.put,cb,cK,cQ];refine ax ?_;have c:=V.refl [] zc.drew;refine w0 9 10 226 175 (#[X (a C),X (a B),X (a y),X (a x)]) (#[X (a s),X (a r)]) (λzl zo H K=>?_) ?_;rotate_left;repeat' (first|(refine gb (l:=12) rfl λp f=>?_;(try have zp:=n.lt);have zv:=c.size;refine cw _ (#[X 0,X 0,X 0,X 0]) rfl rfl Gm rfl ?_;intro aA F l g zr;(try replace n:=n.S g U);replace c:=c.ad g;refine f _ _ c ?_;clear f p;simp only[Act.put,cb,cK,cQ])|(refine gb (l:=13) rfl λp f=>?_;(try have zu:=l.lt);have zm:=c.size;refine cw _ (#[X 0,X 0]) rfl rfl xi rfl ?_;intro zd F n g zq;(try replace l:=l.S g U);replace c:=c.ad g;refine f _ _ c ?_;clear f p;simp only[Act.put,cb,cK,cQ])|(refine gb (l:=14) rfl λp f=>?_;refine cv (Q:=#[X (a C),X (a B),X (a y),X (a x)]) n1 l rfl fy rfl rfl rfl rfl ?_;intro F (w:ag _ _ _ (#[X (a C),X (a B),X (a y),X (a x)])) g zb;replace c:=c.own g Z;(try replace n:=n.S g aw);replace l:=w;clear w;refine f _ _ c ?_;clear f p;try simp only[Act.put,cb,cK,cQ])|(refine gb (l:=15) rfl λp f=>?_;refine cv (Q:=#[X (a s),X (a r)]) mx n rfl fy rfl rfl rfl rfl ?_;intro F (w:ag _ _ _ (#[X (a s),X (a r)])) g zb;replace c:=c.own g Z;(try replace l:=l.S g aw);replace n:=w;clear w;refine f _ _ c ?_;clear f p;try simp only[Act.put,cb,cK,cQ])|refine c8 12 [13] bm (bf.2 ⟨?_,bf.2 ⟨?_,U⟩⟩)|refine c8 12 [15] bm (bf.2 ⟨?_,bf.2 ⟨?_,U⟩⟩)|refine c8 13 [14] bm (bf.2 ⟨?_,bf.2 ⟨?_,U⟩⟩)|refine c8 14 [15] bm (bf.2 ⟨?_,bf.2 ⟨?_,U⟩⟩)|refine c8 12 [] bm (bf.2 ⟨?_,U⟩)|refine c8 13 [] bm (bf.2 ⟨?_,U⟩)|refine c8 14 [] bm (bf.2 ⟨?_,U⟩)|refine c8 15 [] bm (bf.2 ⟨?_,U⟩)|(refine rQ bm ?_ _;exact⟨aA,zd,⟨l,n,c,Z,Z,Z⟩,rfl⟩))
    simp only[Act.put,cb,cK,cQ];replace b:=b.two K;clear K;have zn:=kF (h.out.S b.aa U) 3;have zx:=b.ah 1 1;go_wp2_with(first|(refine de (#[X (a y),X (a x)]) rfl dI (b.ai 0 rfl) (λj k=>sn) rfl rfl ?_)|(refine dO rfl (b.ai 2 rfl) (cE _) rfl rfl ?_))
    exact Oy
  .rw[zh]at ze;rcases W with W|⟨W,zD⟩<;>rcases zf with zf|⟨zf,zS⟩
   all_goals
    have b:=ao.nil [] u;go_in;go_wp2_with(refine cx _ (bl D) rfl rfl rfl rfl ?_;intro zt zc L P O;replace b:=b.aP L P O;clear L P;clear O)
    refine Gn ?_;clear b;intro b;simp only[ga,nth,Nat.reduceMod,Nat.reduceDiv,cz,dv,c'];refine Gp ?_;simp only[Act.put,cb,cK,cQ];refine Gq ?_;simp only[Act.put,cb,cK,cQ];refine ax ?_;have c:=V.refl [] zc.drew;refine w0 9 10 226 175 (#[X (a C),X (a B),X (a y),X (a x)]) (#[X (a s),X (a r)]) (λzl zo H K=>?_) ?_;rotate_left;repeat' (first|(refine gb (l:=12) rfl λp f=>?_;(try have zp:=n.lt);have zv:=c.size;refine cw _ (#[X 0,X 0,X 0,X 0]) rfl rfl Gm rfl ?_;intro aA F l g zr;(try replace n:=n.S g U);replace c:=c.ad g;refine f _ _ c ?_;clear f p;simp only[Act.put,cb,cK,cQ])|(refine gb (l:=13) rfl λp f=>?_;(try have zu:=l.lt);have zm:=c.size;refine cw _ (#[X 0,X 0]) rfl rfl xi rfl ?_;intro zd F n g zq;(try replace l:=l.S g U);replace c:=c.ad g;refine f _ _ c ?_;clear f p;simp only[Act.put,cb,cK,cQ])|(refine gb (l:=14) rfl λp f=>?_;refine cv (Q:=#[X (a C),X (a B),X (a y),X (a x)]) n1 l rfl fy rfl rfl rfl rfl ?_;intro F (w:ag _ _ _ (#[X (a C),X (a B),X (a y),X (a x)])) g zb;replace c:=c.own g Z;(try replace n:=n.S g aw);replace l:=w;clear w;refine f _ _ c ?_;clear f p;try simp only[Act.put,cb,cK,cQ])|(refine gb (l:=15) rfl λp f=>?_;refine cv (Q:=#[X (a s),X (a r)]) mx n rfl fy rfl rfl rfl rfl ?_;intro F (w:ag _ _ _ (#[X (a s),X (a r)])) g zb;replace c:=c.own g Z;(try replace l:=l.S g aw);replace n:=w;clear w;refine f _ _ c ?_;clear f p;try simp only[Act.put,cb,cK,cQ])|refine c8 12 [13] bm (bf.2 ⟨?_,bf.2 ⟨?_,U⟩⟩)|refine c8 12 [15] bm (bf.2 ⟨?_,bf.2 ⟨?_,U⟩⟩)|refine c8 13 [14] bm (bf.2 ⟨?_,bf.2 ⟨?_,U⟩⟩)|refine c8 14 [15] bm (bf.2 ⟨?_,bf.2 ⟨?_,U⟩⟩)|refine c8 12 [] bm (bf.2 ⟨?_,U⟩)|refine c8 13 [] bm (bf.2 ⟨?_,U⟩)|refine c8 14 [] bm (bf.2 ⟨?_,U⟩)|refine c8 15 [] bm (bf.2 ⟨?_,U⟩)|(refine rQ bm ?_ _;exact⟨aA,zd,⟨l,n,c,Z,Z,Z⟩,rfl⟩))
    simp only[Act.put,cb,cK,cQ];replace b:=b.two K;clear K;have zn:=kF (h.out.S b.aa U) 3;have zx:=b.ah 1 1;go_wp2_with(with_reducible show wpList _ _ _ (⟨_,_,_,_,_,none⟩::_) _ _;refine dO rfl (b.ai 2 rfl) (cE _) rfl rfl ?_)
    exact Oy):a:=f ⟨⟩ ⟨⟩ ⟨⟩ ⟨⟩ ⟨⟩ ⟨⟩ ⟨⟩
theorem Oy(b:a:=by
 refine xj ze.out ?_;clear b;intro J z b;clear zn zx;have zE:=b.ah 1 0;go_wp2_with fail
 refine jc 3 ?_;rw[cR];clear zE;go_wp2_with(refine de (#[X (a C),X (a B)]) rfl dI (b.ai 0 rfl) (λj k=>sn) rfl rfl ?_)
 refine hD zK.out ?_;clear b;intro o m b;have zL:=b.ah 1 0;go_wp2_with fail
 rw[cR];clear zL;go_wp2_with(refine de (#[X (a y),X (a x)]) rfl dI (b.ai 0 rfl) (λj k=>sn) rfl rfl ?_)
 refine ur zI.out ?_;clear b;intro zU zT b;have zQ:=b.ah 1 1;go_wp2_with fail
 rw[cR];clear zQ;go_wp2_with fail
 go_ret;exact⟨rfl,b.aa⟩):a:=b
theorem Gp(c:b)(d:b->a:=by intro zA;refine lx ?_;refine hh (aL:=#[X (a C),X (a B),X (a y),X (a x)]) n1 (h.out.S b.aa U) (λj k=>BT) rfl rfl rfl ?_;exact zA):a:=d c
theorem Gq(c:b)(d:b->a:=by intro zN;refine lx ?_;refine hh (aL:=#[X (a s),X (a r)]) mx (h.out.S b.aa U) (λj k=>xk) rfl rfl rfl ?_;exact zN):a:=d c
theorem Gn(c:b)(d:b->a:=by intro zJ;replace b:=b.bd;refine wh (x:=[]) [0,1,2,3,4,5,6,7,8,9,10,11] 4 ar ar ar rfl ?_;revert b;exact zJ):a:=d c
theorem abI(u:N)(D:aY)(Q:Nat)(a:aj)(za:ag u Q 233 (ap a))(t:Fq D a 0):Calls prog 223 #[bl D,ab Q,X 0,.bool (a 1 !=0)] u λe zP=>e=.returned (.bool true)/\V [] u zP:=by exact Ox 5 6 7 8 1 13 14
theorem abJ(u:N)(D:aY)(Q:Nat)(a:aj)(za:ag u Q 233 (ap a))(t:Fq D a 1):Calls prog 223 #[bl D,ab Q,X 1,.bool (a 2 !=0)] u λe zP=>e=.returned (.bool true)/\V [] u zP:=by exact Ox 9 10 11 12 2 15 16
