import Derived.Test.YtdmdbgabjcbjiaaGreatDoorA13
import Derived.Test.YtdmdbgabjcbjiaaGreatDoorA14
set_option maxHeartbeats 0
set_option maxRecDepth 100000
set_option linter.all false
namespace Go.Proofs.YtdmdbgabjcbjiaaGreatDoor
open Go.RowKit fD cr hs a7 _root_.Go.Proofs.Tryz
variable{m s k zn E u:af}{r O:Qan}{c A L:N}{p:aD}{aA g D d n q za P b J I B:Nat}{w:Nat->Option Addr}{G:Nat->Nat}{K:Qad}{h C:Prop}{l:bx}{e:jF}{y:Qak}{zb:Qaj}{f:Act}{Q:Qab}{zf W zd:Qau}{zc:bX}{ze:Qal}{x:Qav}{t v H F:aj}{z:Type}{i:Bool}(a:N)
def aE.p5:aE->aE
 |.cD l _=>.cD l []
 |a=>a
def aE.x7:aE->Bool
 |.cD _ _=>true
 |_=>false
theorem aE.afS(a:aE):a.p5.bE=[]:=by cases a<;>rfl
theorem vi:kz 54 (.agg (bW 0 b6 false 0 dS none 0 0 0)) 148 296:=k7
theorem afT(f:aD)(a:aE)(c:Qae)(d:Nat)(e:Int):∀b∈(cd f a c d e).toList,b.oneCell'=true:=by have:=l1 a.kind (a.xV f) a.cl a.pQ a.ej c a.bE.length d e;rw[kw]at this;exact λb g=>this b (by simpa[cd]using g)
theorem jk.push{l i:N}{o j:Nat}{q:Bool}{b:List (aE×Nat)}{f:aE}(B:f.bE=[]) (t:av m l c ((aA,95,mT (some ⟨g,0,none⟩) (b.length+1) j o q)::[(g,54,K)]) s (λc=>∀a,a<b.length->(ey b a).1.bE≠[]->pY i c (w a) (ey b a).1.bE s)) (A:er 54 148 (b.length+1) (cq (λa=>cd p (ey b a).1 (w a) (G a) ((ey b a).2:Int)) b.length++(cd p f none 0 0).toList) (some ⟨g,0,none⟩) j [(g,54,K)]) (z:∀a,a<b.length->(ey b a).1.bE=[]->w a=none/\G a=0):jk m l i p c aA (b++[(f,0)]) o q:=by
 have k:(b++[((f,0):aE×Nat)]).length=b.length+1:=U;refine⟨some ⟨g,0,none⟩,j,[(g,54,K)],λa=>if a=b.length then none else w a,λa=>if a=b.length then 0 else G a,s,?_,?_,?_⟩
 .rw[k];refine t.ha s (λ_ u=>u) (λa d e=>?_) λ_ _ _ x n y a d e=>(y a d e).S x n;by_cases h:a<b.length
  .rw[nx h]at e⊢;show pY i c (if a=b.length then none else w a) _ _;rw[M Z];exact t.q a h e
  .obtain rfl:a=b.length:=Z;rw[ny]at e;exact absurd B e
 .rw[k,mE,od (b:=λa=>cd p (ey b a).1 (w a) (G a) ((ey b a).2:Int)) λa d=>by simp only[nx d,M (B4 d)]];simp only[ny,eB];exact A
 .rw[k];intro a d r;show(if a=b.length then none else w a)=none/\(if a=b.length then 0 else G a)=0;by_cases h:a<b.length
  .rw[nx h]at r;rw[M Z,M Z];exact z a h r
  .rw[ae Z,ae Z];exact⟨rfl,rfl⟩
theorem afU(b:aD)(a:aE):bW a.kind (a.xV b) a.cl a.pQ a.ej none 0 0 0=cd b a.p5 none 0 0:=by cases a<;>rfl
theorem afV(b:aD)(a:aE):(((hM b a).1:Int)==178)=false/\5<=((hM b a).1:Int):=by cases a<;>exact⟨rfl,by simp[hM]⟩
theorem afW(a:aE):(a.p5.kind !=0)=true/\(a.p5.kind==0)=false/\(a.p5.kind==3)=a.x7:=by cases a<;>exact⟨rfl,rfl,rfl⟩
theorem Sn(a:h:=by refine gJ rfl ⟨rfl,?_⟩;have za:=b.drop 3;have zp:=zm.out;rw[<-zt.out]at za u;exact jk.push zp.1 za u zp.2):h:=a
theorem Sp(a:C)(b:cZ C->h:=by intro zL;have zr:=b.ah 2 0;replace b:=b.bd;refine rg [] [300,1,2,3,4,5,106,207,8,9,210] ?_;refine ax ?_;refine gn λE s=>?_;refine e' underlying35 (cd e o none 0 0) rfl rfl ar ?_;intro x F L D zb;replace b:=b.aP L D zb;refine s _ _ D ?_;clear s E zr;simp only[az];refine el λE s=>?_;refine av.fR [(x,54,cd e o none 0 0),(ze,54,cd e o none 0 0),(zk,97,br (C:Int) p G.length t),(aA,95,#[.slice Q k J,X f,.bool false])] b zB.out (bW 0 b6 false 0 dS none 0 0 0) 296 underlying35 vi (kq _ _ _ _ _ _ _ _ _) R (r:=1) (aF.ai (C:=148) (e:=1) L (by rw[o0])) (afT _ _ _ _ _) H7 hG Z ?_;clear b L D zb;intro g j I K b u;simp only[dZ,cU]at b;refine s _ _ ?_;clear s E;refine ax ?_;refine b.h0 3 (.slice (ab g) (k+1) j) (mT (some ⟨g,0,none⟩) (k+1) j f false) ?_ (e:=0);intro H b;refine ax ?_;have B:=b.cl 1 0 (v:=X r) (g:=by exact h);revert x F g j I K u H b B;exact zL.out):h:=b ⟨a⟩
theorem afX(y:af)(n:N)(e:aD)(aA f:Nat)(zQ:Bool)(w:List (aE×Nat))(c:aE)(p:Qae)(t:Nat)(zN:gW e c)(zC:jk y a n e a aA w f zQ)(zf:V [] n a)(zd:∀d∈y,n.heap.size<=d)(zs:dA n)(zP:dD)(zM:aF n p 1 (hM e c).2.length (aC (hM e c).2))(zj:w.length<=1000000)(zS:f<=1000000):Calls prog 29 #[ab aA,.agg (br ((hM e c).1:Int) p (hM e c).2.length t)] a λzA zO=>zA=.returned (.bool true)/\jk y a n e zO aA (w++[(c.p5,0)]) (f+if c.x7=true then 1 else 0) c.x7:=by
 have q:=Y λzo(zi:V y a zo)=>afj zo e c p t zN (zs.ad (zf.trans zi λd O=>.inr (zd d O))) zP (zM.ad (zf.trans zi λd O=>.inr (zd d O)));rw[afU e c]at q;obtain⟨Q,J,zY,z1,zZ,z7,b,zq,zR⟩:=zC;have zm:=Y (And.intro (aE.afS c) zR);obtain⟨zD,P⟩:=afV e c;obtain⟨zc,zh,A⟩:=afW c;have h:(cd e c.p5 none 0 0)[0]? =some (.int .i64 c.p5.kind):=nz;refine aG ((hM e c).1) λC zI=>?_;refine aG ((hM e c).2) λG zU=>?_;rw[zI]at q zD P⊢;rw[zU]at q⊢;refine aG c.p5 λo zG=>?_;rw[zG]at q zm h zc zh A⊢;refine aG o.kind λr zw=>?_;rw[zw]at h zc zh A;refine aG w.length λk zn=>?_;have zt:=Y zn;rw[zn]at b zq zj;have zB:=Y zq;have i:=Y (And.intro zj zS);cases zl:c.x7
 .rw[zl]at A;go_in;go_wp2_with(refine b.aI _ (br (C:Int) p G.length t) ?_;intro zk zF b;have zv:=b.ah 0 0)
  refine b.aW (Rw _ _ P) ?_;intro zJ b;go_wp2_with(refine b.ld 0 en ?_)
  refine b.aW (q.out _ b.aa) ?_;intro zu b;go_wp2_with(first|(refine b.aH (bW 0 b6 false 0 dS none 0 0 0) re ?_;intro ze zT b)|(refine b.aN 0 (cd e o none 0 0) (y1 _ _ _ _ _) (l1 _ _ _ _ _ _ _ _ _) ?_;intro zy b;have W:=b.cl 0 0 (v:=X r) (g:=by exact h))|(refine b.a6 2 (.bool false) (#[.slice Q k J,X f,.bool false]) ?_ (d:=2);intro zz b;clear W;have zx:=b.cl 0 0 (v:=X r) (g:=by exact h);have zH:=b.ah 2 0))
  refine Sp ?_;clear b;intro x F g j I K u _ H b B;go_wp2_with fail
  exact Sn
 .rw[zl]at A;have zW:=i.out.2;refine aG (f+1) λz zK=>?_;have zX:(f:Int)+1=(z:Int):=Z;rw[show f+(if true=true then 1 else 0)=z from zK];go_in;go_wp2_with(refine b.aI _ (br (C:Int) p G.length t) ?_;intro zk zF b;have zv:=b.ah 0 0)
  refine b.aW (Rw _ _ P) ?_;intro zJ b;go_wp2_with(refine b.ld 0 en ?_)
  refine b.aW (q.out _ b.aa) ?_;intro zu b;go_wp2_with(first|(refine b.aH (bW 0 b6 false 0 dS none 0 0 0) re ?_;intro ze zT b)|(refine b.aN 0 (cd e o none 0 0) (y1 _ _ _ _ _) (l1 _ _ _ _ _ _ _ _ _) ?_;intro zy b;have W:=b.cl 0 0 (v:=X r) (g:=by exact h))|(refine b.a6 2 (.bool false) (#[.slice Q k J,X f,.bool false]) ?_ (d:=2);intro zz b;clear W;have zx:=b.cl 0 0 (v:=X r) (g:=by exact h);have zH:=b.ah 2 0))
  refine Sp ?_;clear b;intro x F g j I K u _ H b B;go_wp2_with(first|(refine b.a6 3 (.bool true) (#[.slice (ab g) (k+1) j,X f,.bool true]) ?_ (d:=2);intro zV b;clear B;have zE:=b.ah 3 1)|(refine b.a6 3 (X z) (#[.slice (ab g) (k+1) j,X z,.bool true]) ?_ (d:=1);intro z6 b;clear zE))
  exact Sn
theorem Sq:kz 97 (.agg (br 0 none 0 0)) 2 32:=k7
theorem afY{a:List (List Nat)}{c d:Qae}{e:Nat}{b:Int}:(cd p (.cD l a) c e b).setIfInBounds 146 (.slice d (a.length+1) D)=cd p (.cD l (a++[k])) d D b:=by unfold cd bW;rw[cb];congr 1;show(_::(cO b6++([.bool false,.bool false,.int .i64 0]++([.int .i64 l.t,.int .i64 l.s,.int .i64 l.aa,.bool l.f,.bool l.r,.bool l.a,.slice none 0 0,.slice c a.length e]++[.int .i64 b])))).set (145+1) _= _;rw[cQ,Fg _ _ (by rw[iP];decide),iP];simp only[aE.bE,aZ,cz,dv];rfl
theorem vj{a:List (List Nat)}:(a++[k]).getD d []=if d=a.length then k else a.getD d []:=by
 rw[b9,List.getElem?_append];split
 .rw[M Z,b9]
 .split
  .rename_i h;subst h;simp
  .rw[b9,fN (show a.length<=d from Z),fN aw]
theorem kr.push{y i:N}{z u r f B:Nat}{b:List (aE×Nat)}{d:List (List Nat)}{o:Nat->Option Addr}{t:Qae}{x:Nat->Nat}{E:Qad} (C:av m y c ((aA,95,mT (some ⟨g,0,none⟩) (b.length+1) u z true)::(g,54,K.setIfInBounds (b.length*148+146) (.slice (ab f) (d.length+1) D))::[(f,97,E)]) s (λc=>∀a,a<b.length->(ey b a).1.bE≠[]->pY i c (w a) (ey b a).1.bE s)) (P:dr K u 148 (b.length+1) (cq (λa=>cd p (ey (b++[(.cD l d,r)]) a).1 (w a) (G a) ((ey (b++[(.cD l d,r)]) a).2:Int)) (b.length+1))) (J:∀a,a<b.length->(ey b a).1.bE=[]->w a=none/\G a=0) (O:er 97 2 (d.length+1) (cq (λa=>br (1+(a:Int)) (o a) (d.getD a []).length (x a)) d.length++(br (1+(d.length:Int)) t k.length B).toList) (some ⟨f,0,none⟩) D [(f,97,E)]) (Q:∀a,a<d.length->aF i (o a) 1 (d.getD a []).length (aC (d.getD a []))) (j:aF i t 1 k.length (aC k)):kr m y i p c aA b l (d++[k]) r z:=by
 have A:(d++[k]).length=d.length+1:=U;refine⟨g,u,_,_,λa=>if a=b.length then some ⟨f,0,none⟩else w a,λa=>if a=d.length then t else o a,λa=>if a=b.length then D else G a,λa=>if a=d.length then B else x a,s,C.ha s (λ_ q=>q) (λa e j=>?_) (λ_ _ _ H n I a e j=>(I a e j).S H n),P.set (v:=.slice (ab f) (d.length+1) D) (λ_=>o0 _ _ _ _ _) (m' _) R λa e=>?_,λa e L=>?_,?_,λq=>absurd q U,λa e=>?_⟩
 .show pY i c (if a=b.length then _ else w a) _ _;rw[M Z];exact C.q a e j
 .by_cases h:a=b.length
  .subst h;simp only[ny,eB];exact afY.symm
  .have F:a<b.length:=Z;simp only[nx F,M h]
 .show(if a=b.length then _ else w a)=none/\(if a=b.length then D else G a)=0;rw[M Z,M Z];exact J a e L
 .simp only[eB];rw[A,mE,od (b:=λa=>br (1+(a:Int)) (o a) (d.getD a []).length (x a)) λa e=>by simp only[vj,M (B4 e)]];simp only[vj,eB];exact O
 .rw[A]at e;rw[vj];by_cases h:a=d.length
  .simp only[ae h];exact j
  .simp only[M h];exact Q a Z
theorem afZ(W:af)(z:N)(O:aD)(aA D za p:Nat)(c:List (aE×Nat))(zb:bx)(f:List (List Nat))(i:af)(g:Qae)(zk:kr W a z O a aA c zb f za D)(zl:f.length<4)(zm:aF z g 1 i.length (aC i))(zE:c.length<=1000000):Calls prog 29 #[ab aA,.agg (br (1+(f.length:Int)) g i.length p)] a λzi zs=>zi=.returned (.bool true)/\kr W a z O zs aA c zb (f++[i]) za D:=by
 obtain⟨L,zp,u,zC,zh,zx,zn,zI,zN,b,x,zu,zc,zM,zr⟩:=zk;have zq:=Y (And.intro x (And.intro zu (And.intro zr zm)));have I:=Y (show u[c.length*148+139+7]? =some (.slice (zh c.length) f.length (zn c.length)) by have:=x.au (λ_=>o0 _ _ _ _ _) (m' _) (show 146<148 from R);rw[show c.length*148+139+7=c.length*148+146 from Z,this];simp only[ny];exact CG 7 (c9 rfl));have P:=Y (show c.length*148+146<u.size by have:=x.lV;have:=x.le;omega);refine aG c.length λm y=>?_;refine aG (c.length+1) λs J=>?_;refine aG f.length λe o=>?_;refine aG i.length λt H=>?_;have ze:ck (c.length=m/\c.length+1=s/\f.length=e/\i.length=t):=⟨y,J,o,H⟩;rw[J]at b;rw[o,y]at zc;rw[y,o]at I;rw[y]at P;rw[o,H];have zJ:(s:Int)-1=(m:Int):=Z;have zK:(m:Int)<(s:Int):=Z;have zG:s<=1000001:=Z;have zd:1<=1+(e:Int):=Z;have zt:1+(e:Int)<5:=Z;have zy:((1+(e:Int))==178)=false:=by rw[sd];omega
 have zj:=Y zc;have A:=Y zl;rw[o]at A;go_in;go_wp2_with(refine b.aI _ (br (1+(e:Int)) g t p) ?_;intro zo zB b;have zv:=b.ah 0 0)
 refine b.aW (Rv _ _ zd zt) ?_;intro zH b;have zL:=b.ah 1 2;have zw:=b.ah 1 0;go_wp2_with fail
 have zA:=b.ah 1 0;refine ve 8 9 10 12 ?_;clear b;intro b;refine ax ?_;go_wp2_with fail
 have zf:=b.cl 2 (m*148+139+7) (g:=I.out);refine H6 ?_;clear b;intro b j h;refine e' underlying50 (br (1+(e:Int)) g t p) rfl rfl ar ?_;refine ri ?_;clear b;intro F Q r B C b;clear h j zf;simp only[az];refine el λj h=>?_;refine av.fR [(F,97,br (1+(e:Int)) g t p),(zo,97,br (1+(e:Int)) g t p),(aA,95,mT (some ⟨L,0,none⟩) s zp D true),(L,54,u)] b zj.out (br 0 none 0 0) 32 underlying50 Sq rfl R (r:=1) (aF.ai (C:=2) (e:=1) r rfl) (by simp[br,Value.oneCell']) (by have:=A.out;unfold maxLen;omega) (by have:=A.out;omega) Z ?_;refine sN ?_;clear b r B C h j;intro l k K E n b;refine b.h0 3 (.slice (ab l) (e+1) k) (u.setIfInBounds (m*148+146) (.slice (ab l) (e+1) k)) ?_ (e:=m*148+146) (t:=P.out);intro zz b;refine ax ?_;have zF:=b.ah 2 2;go_wp2_with fail
 refine gJ rfl ⟨rfl,?_⟩;have G:=b.drop 2;have q:=ze.out;have w:=zq.out;rw[<-q.1,<-q.2.1,<-q.2.2.1]at G;rw[<-q.2.2.1,<-q.2.2.2]at n;exact kr.push G w.1 w.2.1 n w.2.2.1 w.2.2.2
inductive di
 |aM (c:List (aE×Nat)) (a:Nat) (d:Bool)
 |O (f:List (aE×Nat)) (l:bx) (e:List (List Nat)) (b a:Nat)
def di.flat:di->List (aE×Nat)
 |.aM b _ _=>b
 |.O d l c a _=>d++[(.cD l c,a)]
def di.gw:di->Nat
 |.aM _ a _=>a
 |.O _ _ _ _ a=>a
def iQ(e:af)(c b:N)(f:aD)(d:N)(aA:Nat):di->Prop
 |.aM h a i=>jk e c b f d aA h a i
 |.O k l j g a=>kr e c b f d aA k l j g a
def di.step(a:di):jF->di
 |.ak (.cD l _)=>.O a.flat l [] 0 (a.gw+1)
 |.ak b=>.aM (a.flat++[(b,0)]) a.gw false
 |.pX _ k=>match a with
  |.O f l d c e=>.O f l (d++[k]) c e
  |a=>a
def p6:List (aE×Nat)->Nat->List (aE×Nat)
 |[],_=>[]
 |[a],n=>[(a.1,a.2+n)]
 |a::t::g,n=>a::p6 (t::g) n
def di.pad(b:Nat):di->di
 |.aM d a e=>.aM (p6 d b) a e
 |.O g l f c a=>.O g l f (c+b) a
theorem vk(c:List (aE×Nat))(a:aE×Nat)(b:Nat):p6 (c++[a]) b=c++[(a.1,a.2+b)]:=by
 induction c with
 |nil=>rfl
 |cons h e d=>
  cases e with
  |nil=>rfl
  |cons f g=>show h::p6 ((f::g)++[a]) b= _;rw[d];rfl
def di.sQ:di->Nat
 |.aM b _ _=>(b.getLast?.map (·.2)).getD 0
 |.O _ _ _ a _=>a
def vl(k:aD)(c:di)(a:jF×Nat):Prop:=(match a.1 with
 |.ak f=>gW k f
 |.pX b e=>(∃j g d h i,c=.O j g d h i/\d.length=b)/\b<4/\jP (1+b,e)/\e≠[])/\(c.step a.1).sQ+a.2<=1048576
def fJ(a:di):List (jF×Nat)->di
 |[]=>a
 |e::g=>fJ ((a.step e.1).pad e.2) g
def rj(b:aD)(a:di):List (jF×Nat)->Prop
 |[]=>True
 |e::g=>vl b a e/\rj b ((a.step e.1).pad e.2) g
theorem Sr:∀(c a:List (jF×Nat))(b:di),fJ b (c++a)=fJ (fJ b c) a
 |[],_,_=>rfl
 |e::g,a,b=>Sr g a _
theorem Ss:∀{a:aD}{c e:List (jF×Nat)}{b:di},rj a b c->rj a (fJ b c) e->rj a b (c++e)
 |_,[],_,_,_,f=>f
 |_,_::_,_,_,d,g=>⟨d.1,Ss d.2 g⟩
theorem Ib:∀{i:aD}{f:List (jF×Nat)}{a:di}{d:Nat}{b:jF×Nat},rj i a f->f[d]? =some b->vl i (fJ a (f.take d)) b/\fJ a (f.take (d+1))=((fJ a (f.take d)).step b.1).pad b.2
 |_,[],_,_,_,_,e=>r5
 |_,h::g,a,0,b,e,c=>by simp at c;subst c;exact⟨e.1,rfl⟩
 |_,h::g,a,d+1,b,e,c=>by simp at c;exact(Ib (a:=(a.step h.1).pad h.2) (f:=g) e.2 c)
def mN(a:Nat):Nat->List (List Nat)->List (jF×Nat)
 |_,[]=>[]
 |d,[k]=>[(.pX d k,a)]
 |d,k::v::g=>(.pX d k,0)::mN a (d+1) (v::g)
def j2:aE×Nat->List (jF×Nat)
 |(.cD l b,a)=>(.ak (.cD l b),0)::mN a 0 b
 |(c,a)=>[(.ak c,a)]
def gA(a:List (aE×Nat)):List (jF×Nat):=a.flatMap j2
theorem St{m:aD}{e:List (aE×Nat)}{c:bx}{f d:Nat}(p:f<=1048576):∀(g a:List (List Nat)),g≠[]->a.length+g.length<=4->(∀k∈g,jP (1,k)/\k≠[])->fJ (.O e c a 0 d) (mN f a.length g)=.O e c (a++g) f d/\rj m (.O e c a 0 d) (mN f a.length g)
 |[],_,b,_,_=>absurd rfl b
 |[k],a,_,j,h=>by simp only[cz,dv]at j;have b:=h k U;refine⟨?_,⟨⟨⟨e,c,a,0,d,rfl,rfl⟩,Z,⟨by show 0<1+_;omega,by show 1+_<256;omega,b.1.tL,b.1.end_,b.1.oN⟩,b.2⟩,by show 0+f<= _;omega⟩,trivial⟩;show di.O e c (a++[k]) (0+f) d= _;rw[c']
 |k::v::n,a,_,j,h=>by simp only[cz]at j;have i:=St (m:=m) (e:=e) (c:=c) (f:=f) (d:=d) p (v::n) (a++[k]) U (by simp only[aZ,cz,dv];omega) (λo l=>h o pv);rw[aZ,cz,dv,b5]at i;have b:=h k U;exact⟨i.1,⟨⟨⟨e,c,a,0,d,rfl,rfl⟩,Z,⟨by show 0<1+_;omega,by show 1+_<256;omega,b.1.tL,b.1.end_,b.1.oN⟩,b.2⟩,by show 0+0<= _;omega⟩,i.2⟩
theorem af0(a:di){b:aE×Nat}(e:gW p b.1)(g:b.2<=1048576):(fJ a (j2 b)).flat=a.flat++[b]/\rj p a (j2 b)/\(fJ a (j2 b)).gw=a.gw+(if b.1.x7=true then 1 else 0):=by
 obtain⟨l,c⟩:=b;cases l with
 |aQ=>
  refine⟨?_,⟨⟨e,?_⟩,trivial⟩,rfl⟩
  .show p6 (a.flat++[(aE.aQ,0)]) c= _;rw[vk,c']
  .show(((a.flat++[(aE.aQ,0)]).getLast?.map λb:aE×Nat=>b.2).getD 0)+c<= _;rw[List.getLast?_concat];simpa using g
 |aA h j=>
  refine⟨?_,⟨⟨e,?_⟩,trivial⟩,rfl⟩
  .show p6 (a.flat++[(aE.aA h j,0)]) c= _;rw[vk,c']
  .show(((a.flat++[(aE.aA h j,0)]).getLast?.map λb:aE×Nat=>b.2).getD 0)+c<= _;rw[List.getLast?_concat];simpa using g
 |cD d f=>
  obtain⟨m,i,k⟩:=e.bE d f rfl;have:=St (m:=p) (e:=a.flat) (c:=d) (f:=c) (d:=a.gw+1) g f [] m iB k;simp only[dv,cU]at this;refine⟨?_,⟨⟨e,?_⟩,this.2⟩,?_⟩
  .show(fJ (.O a.flat d [] 0 (a.gw+1)) (mN c 0 f)).flat= _;rw[this.1];rfl
  .show 0+0<= _;omega
  .show(fJ (.O a.flat d [] 0 (a.gw+1)) (mN c 0 f)).gw= _;rw[this.1];rfl
theorem Su{h:aD}:∀(c:List (aE×Nat))(a:di),(∀b∈c,gW h b.1/\b.2<=1048576)->(fJ a (gA c)).flat=a.flat++c/\rj h a (gA c)/\(fJ a (gA c)).gw<=a.gw+c.length
 |[],a,_=>⟨by simp[gA,fJ],trivial,by simp[gA,fJ]⟩
 |b::g,a,d=>by
  have e:=af0 a (d b U).1 (d b U).2;have f:=Su g (fJ a (j2 b)) λj k=>d j (by simp[k]);have i:gA (b::g)=j2 b++gA g:=by simp[gA]
  rw[i,Sr];refine⟨?_,Ss e.2.1 f.2.1,?_⟩
  .rw[f.1,e.1,b5];rfl
  .have:=f.2.2;rw[e.2.2]at this;rw[cz];split at this<;>omega
def fK(c:aD)(b:List (jF×Nat)):List ((Nat×List Nat)×Nat):=b.map λa=>(jY c a.1,a.2)
theorem Sv(a:h:=by unfold gi;rw[oC λq h=>by rw[vj,M (B4 (fq.1 h))]]):h:=a
theorem Sw(f:aD)(d:Nat):∀(c:List (List Nat))(a:List (List Nat)),c≠[]->gi a a.length++cg (fK f (mN d a.length c))=gi (a++c) (a++c).length++List.replicate d 0
 |[],_,i=>absurd rfl i
 |[k],a,_=>by
  have e:gi (a++[k]) a.length=gi a a.length:=by exact Sv
  rw[aZ,cz,dv,sK,e,vj,ae rfl];simp[fK,mN,cg,jY]
 |k::v::b,a,_=>by
  have g:=Sw f d (v::b) (a++[k]) U;have e:gi (a++[k]) a.length=gi a a.length:=by exact Sv
  rw[b5]at g;rw[show a++k::v::b=a++([k]++v::b)from rfl,<-g,aZ,cz,dv,sK,e,vj,ae rfl];show _++cg (((1+a.length,k),0)::fK f (mN d (a.length+1) (v::b)))= _;simp[cg]
theorem af1{a:aE×Nat}(e:gW p a.1):cg (fK p (j2 a))=jE p a.1++List.replicate a.2 0:=by
 obtain⟨f,c⟩:=a;cases f with
 |aQ=>simp[fK,j2,cg,jY,jE,aE.bE,gi]
 |aA g h=>simp[fK,j2,cg,jY,jE,aE.bE,gi]
 |cD d b=>have:=Sw p c b [] (e.bE d b rfl).1;show cg ((hM p (.cD d b),0)::fK p (mN c 0 b))= _;rw[dv,cU]at this;rw[cg,<-cU (cg (fK p (mN c 0 b)))];rw[show([]:af)=gi [] 0 from rfl,this,jE];simp[aE.bE]
theorem Sx{c:aD}:∀(b:List (aE×Nat)),(∀e∈b,gW c e.1)->∀a,a<=b.length->cg (fK c (gA (b.take a)))=ek c (b.map (·.1)) (λa=>(ey b a).2) a
 |_,_,0,_=>by simp[gA,fK,cg,ek]
 |b,d,a+1,h=>by
  have g:gW c b[a].1:=d _ (la Z);rw[tG Z,ek,<-Sx b d a Z];have f:gA (b.take a++[b[a]])=gA (b.take a)++j2 b[a]:=by show List.flatMap j2 _= _;rw[List.flatMap_append,List.flatMap_cons,List.flatMap_nil,eG];rfl
  rw[f,show fK c (gA (b.take a)++j2 b[a])=fK c (gA (b.take a))++fK c (j2 b[a])from hf,wI,af1 g];congr 2
  .unfold bq;rw[b9,fx,cu Z];rfl
  .unfold ey;rw[b9,cu Z];rfl
theorem af2:Calls prog 109 #[.int .u64 0] a λc d=>c=.returned (X 0)/\V [] a d:=by have e:Lib.len8 0=0:=R;have b:=ao.nil [] a;go_in;exact ft
theorem af3:Calls prog 64 #[.int .u64 0] a λc d=>c=.returned (X 0)/\V [] a d:=by
 have b:=ao.nil [] a;go_in;go_wp2_with fail
 refine b.aW (af2 _) ?_;intro e b;exact ft
theorem af4(d:Qas):Calls prog 100 #[.slice none 0 0,X 0,X 0,d] a λc e=>c=.returned (.tuple #[])/\V [] a e:=by
 have b:=ao.nil [] a;go_in;go_wp2_with fail
 refine jc 1 ?_;rw[cR];go_wp2_with fail
 exact jw (jW rfl _ _ _) rfl ⟨rfl,b.aa⟩
theorem af5(c:Qas):Calls prog 63 #[.slice none 0 0,X 0,X 0,X 0,c] a λd e=>d=.returned (.tuple #[])/\V [] a e:=by
 have b:=ao.nil [] a;go_in;go_wp2_with fail
 refine jc 1 ?_;rw[cR];go_wp2_with fail
 refine b.aW (af4 _ c) ?_;intro f b;go_wp2_with fail
 exact xT rfl ⟨rfl,b.aa⟩
theorem af6(c:Qas):Calls prog 30 #[.slice none 0 0,c] a λd e=>d=.returned (.tuple #[])/\V [] a e:=by
 have b:=ao.nil [] a;go_in;go_wp2_with fail
 refine b.aW (af3 _) ?_;intro g b;go_wp2_with fail
 refine b.aW (af5 _ c) ?_;intro f b;go_wp2_with fail
 exact jw (jW rfl _ _ _) rfl ⟨rfl,b.aa⟩
theorem Ic(b:List (aE×Nat)):b=[]\/∃e c,b=e++[c]:=by
 rcases List.eq_nil_or_concat b with a|⟨d,f,a⟩
 .exact .inl a
 .exact .inr ⟨d,f,by rw[a,List.concat_eq_append]⟩
section
variable {m:af}{a r c zh:N}{p:aD}{aA:Nat}{j:di}
theorem iQ.Sy(d:iQ m a r p c aA j):∃b,jk m a r p c aA j.flat j.gw b:=by
 cases j with
 |aM h e b=>exact⟨b,d⟩
 |O k f i g e=>exact⟨true,kr.close d⟩
theorem iQ.aa(b:iQ m a r p c aA j):V m a c:=by
 cases j with
 |aM g d h=>exact jk.aa b
 |O k e i f d=>exact kr.aa b
theorem iQ.view(b:iQ m a r p c aA j):∃(t:bX)(u:af)(s:bU),av m a c t u s/\∀f d e,av f d e t u s->iQ f d r p e aA j:=by
 cases j with
 |aM C x D=>obtain⟨h,o,g,i,k,q,n,l⟩:=b;exact⟨_,_,_,n,λf d e b=>⟨h,o,g,i,k,q,b,l⟩⟩
 |O E B F A x=>obtain⟨h,o,g,i,k,q,y,w,z,n,l⟩:=b;exact⟨_,_,_,n,λf d e b=>⟨h,o,g,i,k,q,y,w,z,b,l⟩⟩
theorem iQ.back(d:iQ m c r p zh aA j)(e:V [] a c)(b:∀f∈m,a.heap.size<=f):iQ [] a r p zh aA j:=by
 cases j with
 |aM k g l=>exact jk.back d e b
 |O o h n i g=>exact kr.back d e b
theorem af7(f:af)(d b:N)(a:aD)(aA:Nat)(c:di)(e:jF)(x:Nat)(i:Qae)(g:Nat)(k:iQ f d b a d aA c)(r:vl a c (e,x))(F:V [] b d)(D:∀o∈f,b.heap.size<=o)(E:dA b)(y:dD)(s:aF b i 1 (jY a e).2.length (aC (jY a e).2))(p:c.flat.length<=1000000)(G:c.gw<=1000000):Calls prog 29 #[ab aA,.agg (br ((jY a e).1:Int) i (jY a e).2.length g)] d λl m=>l=.returned (.bool true)/\iQ f d b a m aA (c.step e):=by
 cases e with
 |ak q=>
  obtain⟨z,t⟩:=k.Sy;refine(afX d f b a aA c.gw z c.flat q i g r.1 t F D E y s p G).mono ?_;rintro l m ⟨rfl,j⟩;refine⟨rfl,?_⟩;cases q with
  |aQ=>exact j
  |aA g I=>exact j
  |cD n h=>exact jk.open_ j
 |pX o A=>obtain⟨⟨⟨B,n,h,w,u,rfl,rfl⟩,C,H⟩,_⟩:=r;have:=afZ d f b a aA u w g B n h A i k C s (by simp only[di.flat,aZ]at p;omega);rw[show 1+(h.length:Int)=((1+h.length:Nat):Int)from Z]at this;exact this
theorem Sz{a:aE}{c:Qae}{d:Nat}{e b:Int}:(cd p a c d e).setIfInBounds 147 (X b)=cd p a c d b:=by unfold cd bW;rw[cb];congr 1
theorem SA{a:List (aE×Nat)}:(ey (p6 a n) d).1=(ey a d).1:=by
 rcases Ic a with rfl|⟨c,f,rfl⟩
 .rfl
 .rw[vk];by_cases b:d<c.length
  .rw[nx b,nx b]
  .by_cases e:d=c.length
   .subst e;rw[ny,ny]
   .unfold ey;rw[b9,b9,fN aw,fN aw]
theorem SB(a:h:=by
 by_cases s:f=b.length
 .subst s;simp only[ny,eB];exact Sz.symm
 .have K:f<b.length:=Z;simp only[nx K,M s]):h:=a
theorem SC(a:h:=by rw[g.au (λ_=>o0 _ _ _ _ _) (m' _) R];simp only[ny];exact vb):h:=a
theorem iQ.lens(q:iQ [] a r p c aA j)(za:j.flat≠[])(l:Nat):∃(d i t o:Nat)(m:Bool)(e:Qad)(J:bX)(h:af)(F:bU),av [] a c ((aA,95,mT (some ⟨d,0,none⟩) t i j.gw m)::(d,54,e)::J) h F/\t=o+1/\t=j.flat.length/\e[o*148+147]? =some (.int .i64 (j.sQ:Int))/\o*148+147<e.size/\∀y,av [] a y ((aA,95,mT (some ⟨d,0,none⟩) t i j.gw m)::(d,54,e.setIfInBounds (o*148+147) (X ((j.sQ+l:Nat):Int)))::J) h F->iQ [] a r p y aA (j.pad l):=by
 cases j with
 |O b zi zk zf G=>
  obtain⟨d,i,e,H,D,P,A,zd,h,u,g,B,C,zc,ze⟩:=q;refine⟨d,i,b.length+1,b.length,true,e,H,h,_,u,rfl,by simp[di.flat],?_,?_,λy x=>?_⟩
  .exact SC
  .have:=g.lV;have:=g.le;omega
  .refine⟨d,i,_,H,D,P,A,zd,h,x,g.set (λ_=>o0 _ _ _ _ _) (m' _) R λf k=>?_,B,C,zc,ze⟩;exact SB
 |aM Q G m=>
  obtain⟨zj,i,zh,D,A,h,u,C,B⟩:=q;rcases Ic Q with rfl|⟨b,n,rfl⟩
  .exact absurd rfl za
  .have E:(b++[n]).length=b.length+1:=U;have zb:(di.aM (b++[n]) G m).sQ=n.2:=by simp[di.sQ]
   rcases C with⟨s,_⟩|⟨d,e,rfl,rfl,g⟩
   .rw[E]at s;omega
   .rw[E]at u g;rw[zb];refine⟨d,i,b.length+1,b.length,m,e,[],h,_,u,rfl,by simp[di.flat],?_,?_,λy x=>?_⟩
    .exact SC
    .have:=g.lV;have:=g.le;omega
    .have z:(p6 (b++[n]) l).length=b.length+1:=by rw[vk];simp
     refine⟨some ⟨d,0,none⟩,i,[(d,54,e.setIfInBounds (b.length*148+147) (.int .i64 ((n.2+l:Nat):Int)))],D,A,h,?_,?_,?_⟩
     .rw[z];refine x.ha h (λ_ q=>q) (λf k w=>?_) λ_ _ _ L W l f k w=>(l f k w).S L W;rw[SA]at w⊢;exact x.q f k w
     .rw[z];refine .inr ⟨d,_,rfl,rfl,g.set (λ_=>o0 _ _ _ _ _) (m' _) R λf k=>?_⟩;rw[vk];exact SB
     .rw[z];intro f k I;rw[SA]at I;exact B f (by rw[E];exact k) I
theorem iQ.done(q:iQ [] r r p c aA j)(w:j.flat≠[]):∃(k f:Nat)(g:Nat->Option Addr)(e:Nat->Nat),c.cell? ⟨aA,0,none⟩=some (.slice (ab k) j.flat.length f)/\c.cell? ⟨aA,1,none⟩=some (.int .i64 (j.gw:Int))/\jG c p k (j.flat.map (·.1)) g e (λa=>(ey j.flat a).2)/\r.heap.size<=k/\j.flat.length<=f:=by
 obtain⟨D,G,f,C,g,e,H,d,z,F⟩:=q.Sy;have l:∀a,a<j.flat.length->bq (j.flat.map (·.1)) a=(ey j.flat a).1:=λa b=>by unfold bq ey;rw[b9,b9,fx,cu b];rfl
 rcases z with⟨h,_⟩|⟨m,E,rfl,rfl,n⟩
 .exact absurd (mb h) w
 .refine⟨m,f,g,e,d.cl 0 0,d.cl 0 1,⟨?_,λa b o=>?_⟩,(d.h.n _ (bS (i:=1) rfl)).resolve_left U,n.le⟩
  .rw[ju];have:=dQ.q7 (λ_=>o0 _ _ _ _ _) (aF.nG (mC (d.ai 1 rfl) n));exact λa b=>by show c.rangeAt m (a*148) (cd p (bq (j.flat.map (·.1)) a) (g a) (e a) ((ey j.flat a).2:Int)).toList;rw[l a b];exact this a b
  .rw[ju]at b;rw[l a b]at o⊢;obtain⟨x,t,A,h,_,s,u⟩:=d.q a b o;exact⟨x,t,A,h,s,λB y=>(u B y).ad d.aa⟩
end
theorem SD(e:Int)(c:Qae)(b a:Nat)(f d cf:Int):bT prog 99 (j' e c b a f d cf).size:=⟨_,underlying99,rfl,ar⟩
theorem af8:dJ 99 (.agg (j' 0 none 0 0 0 0 0)):=dM
theorem af9:dJ 95 (.agg (mT none 0 0 0 false)):=dM
theorem aga(e:Int)(c:Qae)(b a:Nat)(f d cf:Int):(j' e c b a f d cf).all (·.oneCell')=true:=by simp[j',Value.oneCell']
theorem agb{b:List (jF×Nat)}{a:Nat}(c:b[q]? =some (e,a)):jC (fK p b) q=(jY p e,a):=by unfold jC fK;rw[b9,fx,c];rfl
theorem SE(a:h:=by
 rcases Ic d with rfl|⟨f,P,rfl⟩
 .rfl
 .show(p6 (f++[P]) b).length= _;rw[vk];simp[di.flat]):h:=a
theorem SF:∀(c:List (jF×Nat))(a:di),(fJ a c).flat.length<=a.flat.length+c.length/\(fJ a c).gw<=a.gw+c.length
 |[],a=>⟨by simp[fJ],by simp[fJ]⟩
 |e::g,a=>by
  have n:=SF g ((a.step e.1).pad e.2);have k:∀b:Nat,∀a:di,(a.pad b).flat.length=a.flat.length/\(a.pad b).gw=a.gw:=λb a=>by
   cases a with
   |O s o u m i=>exact⟨by simp[di.pad,di.flat],rfl⟩
   |aM d i p=>refine⟨?_,rfl⟩;exact SE
  have t:(a.step e.1).flat.length<=a.flat.length+1/\(a.step e.1).gw<=a.gw+1:=by
   obtain⟨h,b⟩:=e;cases h with
   |ak j=>cases j<;>simp[di.step,di.flat,di.gw]
   |pX q r=>cases a<;>simp[di.step,di.flat,di.gw]
  have l:=k e.2 (a.step e.1);simp only[fJ,cz];omega
theorem SG(b:List (jF×Nat))(a:Nat):(fJ (.aM [] 0 false) (b.take a)).flat.length<=a/\(fJ (.aM [] 0 false) (b.take a)).gw<=a:=by have d:=SF (b.take a) (.aM [] 0 false);have e:(di.aM [] 0 false).flat.length=0:=rfl;have f:(di.aM [] 0 false).gw=0:=rfl;have c:(b.take a).length<=a:=List.length_take_le _ _;omega
theorem agc(b:Nat)(a:di):(a.pad b).flat.length=a.flat.length:=by
 cases a with
 |O j e i g c=>simp[di.pad,di.flat]
 |aM d c h=>exact SE
theorem agd{a:di}(c:vl p a (e,n)):(a.step e).flat≠[]:=by
 cases e with
 |ak b=>cases b<;>simp[di.step,di.flat]
 |pX h i=>obtain⟨⟨⟨k,d,g,f,j,rfl,_⟩,_⟩,_⟩:=c;simp[di.step,di.flat]
theorem age{b:List (aE×Nat)}(c:b≠[]):gA b≠[]:=by
 cases b with
 |nil=>exact absurd rfl c
 |cons a e=>obtain⟨a,d⟩:=a;cases a<;>simp[gA,j2]
theorem SH{p:aD}:∀(d:List (aE×Nat)),(∀a∈d,gW p a.1)->(gA d).length<=5*d.length
 |[],_=>by simp[gA]
 |a::g,f=>by
  have s:=SH g λk l=>f k (by simp[l]);have o:=f a U;have j:gA (a::g)=j2 a++gA g:=by simp[gA]
  have m:∀(e:Nat)(b:List (List Nat))(c:Nat),(mN e c b).length=b.length:=λe b=>by
   induction b with
   |nil=>intro c;rfl
   |cons t g n=>
    intro c;cases g with
    |nil=>rfl
    |cons v h=>show((_:jF×Nat)::mN e (c+1) (v::h)).length= _;rw[cz,n];rfl
  rw[j,aZ,cz];obtain⟨a,r⟩:=a;cases a with
  |aQ=>simp only[j2,cz,dv];omega
  |aA q h=>simp only[j2,cz,dv];omega
  |cD i b=>have:=(o.bE i b rfl).2.1;simp only[j2,cz,m];omega
theorem vl.un{b:di}(a:vl p b (e,n)):jP (jY p e)/\(jY p e).2≠[]:=by
 cases e with
 |ak c=>exact⟨va a.1,aeP⟩
 |pX d f=>exact⟨a.1.2.2.1,a.1.2.2.2⟩
theorem agf(f:aD)(h:List (aE×Nat))(zc:Qae)(zf:Nat)(q:af)(x:cg (fK f (gA h))=q)(zD:dA a)(z8:dD)(zk:∀k∈h,gW f k.1/\k.2<=1048576)(zy:h≠[])(zU:h.length<=64)(zac:q.length<=1048576)(zZ:aF a zc 1 q.length (aC q))(zJ:q.length<=zf):Calls prog 10 #[.slice zc q.length zf] a λi z6=>∃(A C:Nat)(zv:Nat->Option Addr)(zs:Nat->Nat),i=.returned (.tuple #[.slice (ab A) h.length C,.slice none 0 0,X 0])/\jG z6 f A (h.map (·.1)) zv zs (λd=>(ey h d).2)/\h.length<=C/\V [] a z6/\a.heap.size<=A:=by
 obtain⟨zq,J,D⟩:=Su (h:=f) h (.aM [] 0 false) zk;have zV:=SH (p:=f) h λk zn=>(zk k zn).1;have zL:∀k∈fK f (gA h),jP k.1/\k.1.2≠[]:=λk zn=>by obtain⟨zaT,zal,rfl⟩:=ca.1 zn;obtain⟨e,zad⟩:=List.mem_iff_getElem?.1 zal;exact(Ib J zad).1.un
 have zt:=Y (acw a zc zf (fK f (gA h)) (by rw[x];exact zZ) (by rw[x];exact zJ) (by rw[x];omega) zL (by unfold fK;exact λi=>age zy (List.map_eq_nil_iff.1 i)));have z1:(fK f (gA h)).length=(gA h).length:=ju _;rw[x]at zt;refine aG (gA h) λg zh=>?_;rw[zh]at zq J D zV zt z1;refine aG g.length λj zaj=>?_;have zaG:=Y (And.intro zq (And.intro D (And.intro zy zU)));have zap:=Y J;have zaA:=Y zD;have zak:=Y z8;have I:=Y (show g.length=j/\j<=320/\(fK f g).length=j from Z);have zaa:ck (q.length<=1048576/\cg (fK f g)=q):=⟨zac,by rw[<-zh];exact x⟩;have zaY:decide (1048576<(q.length:Int))=false:=aw;have zba:j<=320:=I.out.2.1;clear zq D J zy zU zh zaj zV z1 zD z8 zL zZ zk zJ x zac;go_in;go_wp2_with fail
 refine zt.out.mono ?_;rintro i n ⟨v,rfl,zai,zaW,F,K,rfl,l,u,B,za0⟩;rw[I.out.2.2]at l u⊢;have zaz:=Y l;have zaD:=Y u;have zj:=Y B;have b:=ao.nil [] n;clear l u B;go_wp2_with(refine b.aH (mT none 0 0 0 false) af9 ?_;clear b;intro aA zaF b)
 have t:iQ [] n n f zaF aA (fJ (.aM [] 0 false) (g.take 0)):=⟨none,0,[],λ_=>none,λ_=>0,[],(av.jh b).conv (λd r=>absurd r (fT _)) (λ_ _ _ _ _ _ d r=>absurd r (fT _)),.nil,λd r=>absurd r (fT _)⟩;have zG:=Y t;clear t b;go_loopw [6,20] (λzaJ za wr=>∃e:Nat,e<=j/\zaJ=.slice none 0 0/\za=X e/\Hid (iQ [] n n f wr aA (fJ (.aM [] 0 false) (g.take e)))) (λ_ za _=>j-(intOf za).toNat)
 .exact⟨0,Z,rfl,rfl,zG⟩
 .obtain⟨e,zad,rfl,rfl,zp⟩:=hrel;clear zG;by_cases zP:e<j
  .have zam:(e:Int)<(j:Int):=Z;obtain⟨⟨i,s⟩,H⟩:∃k,g[e]? =some k:=⟨_,cu (by have:=I.out.1;omega)⟩;obtain⟨y,zl⟩:=Ib zap.out H;have zM:=SG g e;have zr:=agb (p:=f) H;have zaK:=(tM (a:=fK f g) (b:=e) (g:=jY f i) (f:=s) (by unfold fK;rw[fx,H];rfl)).2;have zI:=wJ (a:=fK f g) (b:=e+1);have zav:=y.un;rw[zaa.out.2]at zI;refine aG (fJ (.aM [] 0 false) (g.take e)) λL zS=>?_;rw[zS]at y zl zM zp;have l:=zaz.out e zP;have u:=zaD.out e zP;rw[zr]at u;replace l:n.rangeAt zai (e*5) (j' (jY f i).1 (some ⟨F e,0,none⟩) (jY f i).2.length (K e) (cM (fK f g) e) ((cM (fK f g) e+4+(bM 0 (jY f i).2).length:Nat):Int) (cM (fK f g) (e+1))).toList:=by have P:=l;simp only[zr]at P;exact P
   refine aG (cM (fK f g) e) λzaE z'=>?_;refine aG (cM (fK f g) (e+1)) λW B=>?_;refine aG (cM (fK f g) e+4+(bM 0 (jY f i).2).length) λzu zC=>?_;rw[zC,z',B]at l;have zd:=Y zl;have zi:=Y λm c(P:iQ m c n f c aA L)(zau:V [] n c)(zat:∀d∈m,n.heap.size<=d)=>af7 m c n f aA L i s (some ⟨F e,0,none⟩) (K e) P y zau zat (zaA.out.ad zj.out) zak.out u.1 Z Z;have zm:=agd y;have z:(L.step i).sQ+s<=1048576:=y.2;refine aG ((jY f i).1) λzA zX=>?_;refine aG ((jY f i).2.length) λzE zah=>?_;rw[zX,zah]at l zi;refine aG (L.step i) λzaq z7=>?_;rw[z7]at zi zd zm z;have zaH:=Y zm;have zaL:=Y l;have za6:(W:Int)-(zu:Int)=(s:Int):=Z;have zaQ:=Y (show W<=1048576 by have:=zaa.out.1;omega);have zb:=Y z;clear H y zl zM zr zaK zI zav l u zS z' B zC zm z zX zah z7;obtain⟨E,zaM,za1,b,zab⟩:=zp.out.view;go_wp2_with(first|(refine lg (SD _ _ _ _ _ _ _) (iM zaL.out b.aa) ?_)|(refine b.aH (j' 0 none 0 0 0 0 0) af8 ?_;clear b;intro G zaP b)|(refine b.aN 0 (j' zA (some ⟨F e,0,none⟩) zE (K e) zaE zu W) (SD _ _ _ _ _ _ _) (aga _ _ _ _ _ _ _) ?_;clear b;intro zbc b)|(refine b.cp 0 (br zA (some ⟨F e,0,none⟩) zE (K e)) en ?_ (o:=by exact(hY rfl))))
   have zae:=b.ai 0 rfl;have O:=b.drop 1;have zax:G∉E.map (·.1)++zaM:=λp=>by
    rcases bc.1 p with p|p
    .have:=b.h.d;simp only[cj,jJ]at this;exact this.1 p
    .exact b.a.d G p U
   refine(zi.out _ _ (zab _ _ _ (av.aeU (q:=E) O)) b.aa λd r=>(av.xX (q:=E) O d r).1).mono ?_;rintro za2 zK ⟨rfl,zx⟩;have zO:=zae.S zx.aa zax;have zT:=iQ.back zx b.aa λd r=>(av.xX (q:=E) O d r).1;clear zae O b zx zab;obtain⟨zaU,C,p,d,za7,zar,zaV,zaO,zbb,b,zas,zW,zB,zaf,o⟩:=zT.lens zaH.out s;have zF:=b.cl 1 (d*148+147) (g:=zB);have w:=b.ah 0 0;have zao:zK.cell? ⟨G,3,none⟩=some (.int .i64 (zu:Int)):=zO.au 3;have zaC:zK.cell? ⟨G,4,none⟩=some (.int .i64 (W:Int)):=zO.au 4;refine aG zaq.sQ λzR z=>?_;rw[z]at zF o zb;refine aG (zR+s) λQ zag=>?_;rw[zag]at o zb;have za3:(zR:Int)+(s:Int)=(Q:Int):=Z;have za4:(Q:Int)<=1048576:=by have:=zb.out;omega
   have za9:(s:Int)<=1048576:=Z;have zaR:p<=1000000:=by have zaI:=(SG g (e+1)).1;rw[zd.out,agc,<-zW]at zaI;omega
   have zaS:(p:Int)-1=(d:Int):=Z;have zbd:(d:Int)<(p:Int):=Z;have zay:=Y zaf;have zaB:=Y o;clear zas zW zB zaf o z zag zT;go_wp2_with fail
   replace b:=b.bd;refine rg [] [0,1,2,3,4,5,6,7,8,9,10,11,12,13,14,15,16,217] ?_;refine ax ?_;refine b.h0 1 (X Q) (zar.setIfInBounds (d*148+147) (X Q)) ?_ (e:=d*148+147) (t:=zay.out);clear b;intro zaX b;refine ax ?_;clear w zF zao zaC;go_wp2_with fail
   exact⟨⟨e+1,Z,rfl,a8,Y (by rw[zd.out];exact zaB.out _ b)⟩,bF⟩
  .obtain rfl:j=e:=Z;have zam:¬((j:Int)<(j:Int)):=Z;have t:=zp.out;have o:=zaG.out;rw[ml (by have:=I.out.1;omega)]at t;have ze:(fJ (.aM [] 0 false) g).flat=h:=by rw[o.1];rfl
   obtain⟨A,C,zv,zs,w,zH,zo,zQ,zz⟩:=t.done (by rw[ze];exact o.2.2.1);have D:decide (256<((fJ (.aM [] 0 false) g).gw:Int))=false:=by have zaN:(fJ (.aM [] 0 false) g).gw<=0+h.length:=o.2.1;have za8:h.length<=64:=o.2.2.2;simp;omega
   have zaw:=t.aa;rw[ze]at w zo zz;refine aG ((fJ (.aM [] 0 false) g).gw) λza5 zN=>?_;rw[zN]at zH D;have zan:=Y zo;have zY:=Y (And.intro zQ zz);clear t o ze zo zN zQ zz;go_wp2_with fail
   refine(af6 _ _).mono ?_;rintro i zaZ ⟨rfl,zw⟩;replace w:=(zw.au (f' _ _ w) U).trans w;clear zH;go_wp2_with fail
   exact Hq rfl ⟨A,C,zv,zs,rfl,zan.out.ad zw,zY.out.2,zj.out.ad (zaw.ad zw),b7 zj.out.size zY.out.1⟩
theorem agh(e:Qae)(d b a g:Nat)(f:aq)(c:aK):prog.built 401 [(0,.slice e d b),(1,.int .i64 (a:Int)),(2,.int .i64 (g:Int)),(3,.agg (al f c))]=some (eK e d b a g f c):=ar
theorem SI{m:Qai}{a:Qax}{l:Qau}(j:Qae)(e i d h:Nat)(k:aq)(g:aK)(o:ba (bA []) prog y Q za m zb (f.put a.dst (eK j e i d h k g)) c)(t:a.op=.build 401 #[(0,zf),(1,W),(2,zd),(3,l)]:=by rfl) (w:f.eval zf=.slice j e i:=by rfl) (p:f.eval W=X d:=by rfl) (r:f.eval zd=X h:=by rfl) (u:f.eval l=.agg (al k g):=by rfl) (n:(match a.dst with|some b=>decide (b<f.tmps.size)|none=>false)=true:=by rfl) (s:jK a=true:=by rfl) (q:cB a y f:=by rfl):ba (bA []) prog y Q za ((a,0)::m) zb f c:=ra (eK j e i d h k g) o t (by simp only[gm,cj,ee,w,p,r,u];exact agh j e i d h k g) n s q
theorem Ie:dJ 401 (.agg #[.slice none 0 0,X 0,X 0,X 0,X 0,.slice none 0 0,.slice none 0 0,.slice none 0 0]):=dM
theorem ao.up{b:N}(a:ao [] b c zc):ao m b c zc:=⟨a.aa.up,a.b,a.d,λd e=>.inr ((a.n d e).resolve_left U)⟩
theorem ao.Ig{a:Nat}{b:N}{T:Qat}(d:ao [] b c zc)(e:ag b a T K):ao [a] b c ((a,T,K)::zc):=ao.add d.up (e.S d.aa U) U λj=>by obtain⟨f,h,g⟩:=ca.1 j;have i:=(d.n f h).resolve_left U;have k:=e.lt;rw[g]at i;omega
theorem agi{a:N}{aO c:aq}{b e:aK}{d f:Nat}(l:aO.dN)(g:aT a aO b)(i:c.Ok)(m:aT a c e)(n:d<=4)(o:f<=4):mG a b.a aO.y b.cJ (16*d) (16*f) c e:=by obtain⟨h,j,k⟩:=l;refine⟨g.y,g.lG,h.gy,⟨16,by rw[h.d',j,k],R,R⟩,Z,Z,i,m⟩
theorem SJ(c a:Nat)(b:bj c->bj a->h:=by
 intro i E;have b:=ao.nil [] a;go_in;go_wp2_with(first|(refine b.aI _ (al aO g) ?_;intro zu zs b)|(refine b.aI _ (bQ cf m) ?_;intro zx zw b;have zy:=b.ah 1 2))
 have zv:=b.ah 1 2;replace b:=b.bd;refine rg [] [0,1,2,3,4,5,6,7,8,9,10,11,12,113,214] ?_;refine D8 ?_;refine hh (aL:=al (c.G i) (c.Q i)) aB (t.out.S b.aa U) (o3 i R) rfl rfl rfl ?_;simp only[az];refine SI g.a aO.y.length g.cJ e f (c.G i) (c.Q i) ?_;refine SK λw H b=>?_;refine b.dq 0 (eK g.a aO.y.length g.cJ e f (c.G i) (c.Q i)) ls (Ck _ _ _ _ _ _ _) ?_;refine SL λC b K=>?_;go_wp2_with fail
 replace b:=b.bd;refine rg [] [0,1,2,3,6,7,8,104,5,9,210] ?_;refine ax ?_;refine bN (G9 _ g.a aO.y g.cJ e f (c.G i) (c.Q i) (zo.out.ad b.aa) cf m zh zn) ?_;rintro D zp ⟨k,j,zt,rfl,zf,zd,zr,L⟩;refine⟨_,rfl,L,?_⟩;replace b:=b.aS L;refine jL ?_;replace b:=b.Ig x.out;refine b.ik 0 (bQ k j) (cC y E (bQ k j).toList) dI (lN _ _) ?_ (e:=E) (u:=by rw[r.out];exact c9 rfl);intro zq b;refine ax ?_;go_wp2_with fail
 exact jw (jW rfl _ _ _) rfl ⟨k,j,rfl,zf,zd,b.ai 0 rfl,b.aa⟩):h:=b ⟨⟩ ⟨⟩
theorem agj(c:bG)(n:Nat)(O:ag a n 291 (cW c))(p:Nat)(y:Qad)(zc:ag a p 392 y)(za:y.size=816)(aO:aq)(g:aK)(W:aO.dN)(P:aT a aO g)(o s:Nat)(zb:o<=4)(Q:s<=4)(cf m:Int)(zh:-63<=cf/\cf<=63)(zn:-63<=m/\m<=63)(h:Nat)(ze:h<2)(q:c.h.s=3)(ak:∀d,d=h->(c.G d).Ok/\aT a (c.G d) (c.Q d)):Calls prog 280 #[ab n,.pointer (some ⟨p,408*h,none⟩),X h,al aO g,X o,X s,bQ cf m] a λD z=>∃k j:Int,D=.returned (.tuple #[])/\(-63<=k/\k<=63)/\(-63<=j/\j<=63)/\ag z p 392 (cC y (412*h+5) (bQ k j).toList)/\V [p] a z:=by
 refine SM λt x r e A f B u G I J F=>?_;have w:(c.h.s !=3)=false:=oT;have zo:=Y (u h (ak h rfl).1 (ak h rfl).2);match h,ze with
 |0,_=>exact SJ 0 5
 |1,_=>exact SJ 1 417
theorem SN(a d b:Nat)(c:bj a->bj d->bj b->h:=by
 intro h L zf;have b:=ao.nil [] a;go_in;go_wp2_with(first|(refine b.aI _ (al aO j) ?_;intro zz zx b)|(refine b.aI _ (bQ cf y) ?_;intro zC zB b;have zD:=b.ah 1 2))
 have zA:=b.ah 1 2;replace b:=b.bd;refine rg [] [0,1,2,3,4,5,6,7,8,9,10,11,12,113,214] ?_;refine D8 ?_;refine hh (aL:=al (c.G h) (c.Q h)) aB (t.out.S b.aa U) (o3 h R) rfl rfl rfl ?_;simp only[az];refine SI j.a aO.y.length j.cJ e f (c.G h) (c.Q h) ?_;refine SK λw H b=>?_;refine b.dq 0 (eK j.a aO.y.length j.cJ e f (c.G h) (c.Q h)) ls (Ck _ _ _ _ _ _ _) ?_;refine SL λC b K=>?_;go_wp2_with fail
 replace b:=b.bd;refine rg [] [0,1,302,303,4,5,6,7,12,13,14,317,318,319,108,9,10,311,15,216,20,221] ?_;refine ax ?_;refine bN (HV _ c n (t.out.S b.aa U) j.a aO.y j.cJ e f (c.G h) (c.Q h) h R (λg E=>(zu.out g E).ad b.aa) cf y zr zt) ?_;rintro ze zv ⟨m,k,q,rfl,zq,zo,zn,zs,zh⟩;refine⟨_,rfl,zh,?_⟩;replace b:=b.aS zh;refine pk ?_;replace b:=b.Ig x.out;refine b.ik 0 (bQ m k) (cC z L (bQ m k).toList) dI (lN _ _) ?_ (e:=L) (u:=by rw[r.out];exact c9 rfl);intro zw b;refine ax ?_;refine b.h0 0 (X q) ((cC z L (bQ m k).toList).setIfInBounds zf (X q)) ?_ (e:=zf) (t:=by rw[tS Ih,r.out];exact c9 rfl);intro zy b;refine ax ?_;go_wp2_with fail
 exact xT rfl ⟨m,k,q,rfl,zq,zo,zn,zs,b.ai 0 rfl,b.aa⟩):h:=c ⟨⟩ ⟨⟩ ⟨⟩
theorem agk(c:bG)(n:Nat)(O:ag a n 291 (cW c))(D:Nat)(z:Qad)(zc:ag a D 392 z)(za:z.size=816)(aO:aq)(j:aK)(W:aO.dN)(P:aT a aO j)(o s:Nat)(zb:o<=4)(Q:s<=4)(cf y:Int)(zr:-63<=cf/\cf<=63)(zt:-63<=y/\y<=63)(i:Nat)(zp:i<2)(p:c.h.s≠3)(ak:∀g,g<2->(c.G (2+2*i+g)).Ok/\aT a (c.G (2+2*i+g)) (c.Q (2+2*i+g))):Calls prog 280 #[ab n,.pointer (some ⟨D,408*i,none⟩),X i,al aO j,X o,X s,bQ cf y] a λze zd=>∃m k q:Int,ze=.returned (.tuple #[])/\(-63<=m/\m<=63)/\(-63<=k/\k<=63)/\0<=q/\q<=1/\ag zd D 392 ((cC z (412*i+5) (bQ m k).toList).setIfInBounds (410*i+13) (X q))/\V [D] a zd:=by
 refine SM λt x r e A f B u G I J F=>?_;have w:(c.h.s !=3)=true:=mY;have zu:=Y λg(E:g<2)=>u (2+2*i+g) (ak g E).1 (ak g E).2;match i,zp with
 |0,_=>exact SN 0 5 13
 |1,_=>exact SN 1 417 423
def bL:aq:=⟨0,0,[],[],[]⟩
def bR:aK:=⟨none,none,none,0,0,0⟩
theorem agl(d:Qae)(c b a e:Nat):prog.built 401 [(0,.slice d c b),(1,.int .i64 (a:Int)),(2,.int .i64 (e:Int))]=some (eK d c b a e bL bR):=ar
theorem SO{d:Qax}{j:Qaa}{l i k:Qau}(h:Qae)(b g a e:Nat)(n:wpList prog y j ze (f.put d.dst (eK h b g a e bL bR)) c) (o:d.guard=none:=by rfl) (q:d.op=.build 401 #[(0,l),(1,i),(2,k)]:=by rfl) (r:f.eval l=.slice h b g:=by rfl) (m:f.eval i=X a:=by rfl) (p:f.eval k=X e:=by rfl):wpList prog y j (d::ze) f c:=fU (T:=401) (eK h b g a e bL bR) n o q (by simp only[gm,cj,ee,r,m,p];exact agl h b g a e)
theorem agm{a:Nat}(b:a<=P)(c:P<=zn.length):((zn.take P).drop a).length=P-a:=by rw[oB,kb];omega
theorem akY{a:Nat}(b:∀v∈zn,v<256):∀v∈(zn.take P).drop a,v<256:=λv c=>b v (tc (py c))
theorem SP(a f b g e:Nat)(d:bj a->bj f->bj b->bj g->bj e->h:=by
 intro zp C I zT zal;have b:=ao.one zau.out;go_in;go_wp2_with(first|(refine b.aI _ (#[X 16,X 16,.slice e.a aO.y.length e.cJ,.slice e.b aO.u.length e.cT,.slice e.c aO.v.length e.cm]) ?_;clear b;intro zv za1 b)|(refine b.aI _ (bQ cf t) ?_;clear b;intro zz za2 b))
 replace b:=av.jh b;refine jc 3 ?_;rw[cR];go_wp2_with fail
 go_loopw [16,15] (λJ zH wr=>∃(n:Nat)(g:af)(L:Qae)(k:Nat)(O:bX),n<=8/\J=X ((0+2*n:Nat):Int)/\zH=.slice L g.length k/\g.length=16*n/\(∀v∈g,v<256)/\er 5 1 g.length (aC g) L k O/\Hid (av [j] a wr ([(zz,225,bQ cf t),(zv,71,#[X 16,X 16,.slice e.a aO.y.length e.cJ,.slice e.b aO.u.length e.cT,.slice e.c aO.v.length e.cm]),(j,392,o)]++O) [] λ_=>True)) (λJ _ _=>18-(intOf J).toNat)
 .exact SQ
 .obtain⟨n,g,L,k,O,zaN,rfl,rfl,zi,zh,zm,zk⟩:=hrel;try clear b
  have b:=zk.out;clear zk;refine aG (0+2*n) λE zb=>?_;rw[zb];have K:=Y zm;have zR:=Y zh;have G:=Y zi;clear zm zh zi;by_cases zO:n<8
  .refine SR λzd h i zK zE u zN zD zG F zl w za zf=>?_;go_wp2_with(first|(refine Og underlying57 jQ h i Z Ii ?_;simp only[M F,k3];clear F)|(refine av.fR [(zz,225,bQ cf t),(zv,71,#[X 16,X 16,.slice e.a aO.y.length e.cJ,.slice e.b aO.u.length e.cT,.slice e.c aO.v.length e.cm]),(j,392,o)] b K.out (.int .u8 0) 1 underlying57 kB rfl R (zl.out _ b.aa) (by rw[AY];exact BF _) SS (by have:=G.out;have:=u.out;omega) (by have:=u.out;omega) ?_;clear b w za zf;intro zY D zab zai b zt))
   exact SU
  .obtain rfl:n=8:=Z;have zd:¬((E:Int)<16):=Z;clear zb zO;rcases K.out with⟨zaK,_⟩|⟨Q,zI,rfl,rfl,ze⟩
   .have:=G.out;omega
   have z7:=Y ze;clear ze K;simp only[dZ,cU]at b;refine SV z7.out z7.out.le λzP w=>?_;go_wp2_with(first|(refine SO (some ⟨Q,0,none⟩) g.length k y z ?_)|(refine b.aH (#[.slice none 0 0,X 0,X 0,X 0,X 0,.slice none 0 0,.slice none 0 0,.slice none 0 0]) Ie ?_;clear b;intro zaS zaT b;clear w)|(refine b.aN 0 (eK (some ⟨Q,0,none⟩) g.length k y z bL bR) ls (Ck _ _ _ _ _ _ _) ?_;clear b;intro za7 b))
   replace b:=b.bd;refine SX ?_;refine bN (HV _ B zx (zah.out.S (zo.out _ b.aa) U) (some ⟨Q,0,none⟩) g k y z bL bR zp R (zP.out _ (b.ai 4 rfl) b.aa) cf t zZ z1) ?_;rintro zL zaV ⟨x,A,H,rfl,zaH,zaD,zaJ,zay,zJ⟩;refine⟨_,rfl,zJ,?_⟩;replace b:=b.aS zJ;clear zJ;refine ax ?_;refine b.ik 3 (bQ x A) (cC o C (bQ x A).toList) dI (lN _ _) ?_ (e:=C) (u:=by rw[r.out];exact c9 rfl);clear b;intro zaW b;refine ax ?_;refine b.h0 3 (X H) ((cC o C (bQ x A).toList).setIfInBounds I (X H)) ?_ (e:=I) (t:=by rw[tS Ih,r.out];exact c9 rfl);clear b;intro za5 b;refine ax ?_;have zA:=Y (show((cC o C (bQ x A).toList).setIfInBounds I (X H)).size=816 by rw[xW,tS Ih];exact r.out);go_wp2_with fail
   clear zd;replace b:=b.drop 1;try dsimp only[List.drop]at b
   rw[cR];go_wp2_with fail
   go_loopw [16,15] (λJ zH wr=>∃(n:Nat)(g:af)(L:Qae)(k:Nat)(O:bX),n<=8/\J=X ((1+2*n:Nat):Int)/\zH=.slice L g.length k/\g.length=16*n/\(∀v∈g,v<256)/\er 5 1 g.length (aC g) L k O/\Hid (av [j] a wr ([(zz,225,bQ cf t),(zv,71,#[X 16,X 16,.slice e.a aO.y.length e.cJ,.slice e.b aO.u.length e.cT,.slice e.c aO.v.length e.cm]),(j,392,((cC o C (bQ x A).toList).setIfInBounds I (.int .i64 H))),(Q,5,zI)]++O) [] λ_=>True)) (λJ _ _=>18-(intOf J).toNat)
   .exact SQ
   .obtain⟨n,g,L,k,O,zaN,rfl,rfl,zi,zh,zm,zk⟩:=hrel;try clear b
    have b:=zk.out;clear zk;refine aG (1+2*n) λE zb=>?_;rw[zb];have K:=Y zm;have zR:=Y zh;have G:=Y zi;clear zm zh zi;by_cases zO:n<8
    .refine SR λzd h i zK zE u zN zD zG F zl w za zf=>?_;go_wp2_with(first|(refine Og underlying57 jQ h i Z Ii ?_;simp only[M F,k3];clear F)|(refine av.fR [(zz,225,bQ cf t),(zv,71,#[X 16,X 16,.slice e.a aO.y.length e.cJ,.slice e.b aO.u.length e.cT,.slice e.c aO.v.length e.cm]),(j,392,((cC o C (bQ x A).toList).setIfInBounds I (.int .i64 H))),(Q,5,zI)] b K.out (.int .u8 0) 1 underlying57 kB rfl R (zl.out _ b.aa) (by rw[AY];exact BF _) SS (by have:=G.out;have:=u.out;omega) (by have:=u.out;omega) ?_;clear b w za zf;intro zY D zab zai b zt))
     exact SU
    .obtain rfl:n=8:=Z;have zd:¬((E:Int)<16):=Z;clear zb zO;rcases K.out with⟨zaK,_⟩|⟨zF,zaX,rfl,rfl,ze⟩
     .have:=G.out;omega
     have z8:=Y ze;clear ze K;simp only[dZ,cU]at b;have zav:=Y λq(zaB:ag q zF 5 zaX)(zj:V [j] a q) s(zam:s<2)=>show mG q (some ⟨zF,0,none⟩) g k y z (B.G (2+2*zp+s)) (B.Q (2+2*zp+s))from⟨aF.nG (mC zaB z8.out),z8.out.le,zR.out,⟨8,G.out,R,R⟩,Z,Z,(zaa.out s zam).1,(zaa.out s zam).2.ad (zo.out q zj)⟩;have za:=b.ah 1 1;go_wp2_with(first|(refine SO (some ⟨zF,0,none⟩) g.length k y z ?_)|(refine b.aH (#[.slice none 0 0,X 0,X 0,X 0,X 0,.slice none 0 0,.slice none 0 0,.slice none 0 0]) Ie ?_;clear b;intro za4 zaY b;clear za)|(refine b.aN 0 (eK (some ⟨zF,0,none⟩) g.length k y z bL bR) ls (Ck _ _ _ _ _ _ _) ?_;clear b;intro zab b))
     replace b:=b.bd;refine SX ?_;refine bN (HV _ B zx (zah.out.S (zo.out _ b.aa) U) (some ⟨zF,0,none⟩) g k y z bL bR zp R (zav.out _ (b.ai 5 rfl) b.aa) cf t zZ z1) ?_;rintro zL zaZ ⟨zs,zy,zV,rfl,zas,zaw,zaM,zaQ,zU⟩;refine⟨_,rfl,zU,?_⟩;replace b:=b.aS zU;clear zU;refine ax ?_;refine b.ik 3 (bQ zs zy) (cC ((cC o C (bQ x A).toList).setIfInBounds I (X H)) zT (bQ zs zy).toList) dI (lN _ _) ?_ (e:=zT) (u:=by rw[zA.out];exact c9 rfl);clear b;intro zaR b;refine ax ?_;refine b.h0 3 (X zV) ((cC ((cC o C (bQ x A).toList).setIfInBounds I (X H)) zT (bQ zs zy).toList).setIfInBounds zal (X zV)) ?_ (e:=zal) (t:=by rw[tS (by rw[zA.out];exact c9 rfl),zA.out];exact c9 rfl);clear b;intro za8 b;refine ax ?_;go_wp2_with fail
     rw[cR];go_wp2_with fail
     exact jw (jW rfl _ _ _) rfl ⟨x,A,H,zs,zy,zV,rfl,⟨zaH,zaD,zaJ,zay⟩,⟨zas,zaw,zaM,zaQ⟩,b.ai 3 rfl,b.aa⟩):h:=d ⟨⟩ ⟨⟩ ⟨⟩ ⟨⟩ ⟨⟩
theorem SU(a:h:=by have zae:=agm (zn:=aO.y) (a:=h) (P:=i) Z (by have:=zr.out;omega);rw[AY,<-r']at zt;rw[show g.length+(i-h)=(g++((aO.y.take i).drop h)).length by rw[aZ,zae]]at zt⊢;refine⟨⟨n+1,_,_,D,[(zY,5,zai)],Z,by rw[<-zb];go_num,rfl,by have:=u.out;rw[aZ,zae,G.out];omega,λv zaP=>(bc.1 zaP).elim (zR.out v) (akY zaC.out v),zt,Y b⟩,bF⟩):h:=a
theorem agn(a:h:=by have zaf:=(zw.out.ad (zo.out q zj)).y.sub (s:=h) (r:=i) (t:=e.cJ) Z (by have:=zr.out;omega) zw.out.lG;rw[M F]at zaf;simpa only[k3]using zaf):h:=a
theorem SQ(a:h:=by exact⟨0,[],none,0,[],Z,rfl,rfl,rfl,U,er.nil,Y (by rw[eG];exact b)⟩):h:=a
theorem SR(a:C)(b:cZ C->h:=by
 intro zat;have zd:(E:Int)<16:=Z;obtain⟨h,zap⟩:∃zX,zX=E*16:=⟨_,rfl⟩;obtain⟨i,zaI⟩:∃zX,zX=(E+1)*16:=⟨_,rfl⟩;have zK:(E:Int)*16=(h:Int):=Z;have zE:((E:Int)+1)*16=(i:Int):=Z;have u:=Y (show i=h+16 from Z);have zN:h<=i:=Z;have zD:i<=256:=Z;have zG:i<=e.cJ:=Ii;clear zap zaI;have F:¬(e.cJ=h):=by have:=zr.out;have:=zw.out.lG;have:=u.out;omega
 have zl:=Y λq(zj:V [j] a q)=>show aF q (e.a.map λzaz=>zaz.add h) 1 (i-h) (((aC aO.y).take i).drop h) by exact agn
 have w:=b.ah 1 1;have za:=b.ah 1 2;have zf:=b.ah 1 0;revert zd h i zK zE u zN zD zG F zl w za zf;exact zat.out):h:=b ⟨a⟩
theorem SV{a b:Prop}(c:a)(f:b)(e:C)(d:a->b->cZ C->h:=by intro zaL zaE zaF;have zP:=Y λq(zaB:ag q Q 5 zI)(zj:V [j] a q) s(zam:s<2)=>show mG q (some ⟨Q,0,none⟩) g k y z (B.G (2+2*zp+s)) (B.Q (2+2*zp+s))from⟨aF.nG (mC zaB zaL),zaE,zR.out,⟨8,G.out,R,R⟩,Z,Z,(zaa.out s zam).1,(zaa.out s zam).2.ad (zo.out q zj)⟩;have w:=b.ah 1 1;revert zP w;exact zaF.out):h:=d c f ⟨e⟩
theorem SX(a:C)(b:C->h:=by intro zao;refine rg [] [0,1,2,303,304,305,6,7,8,9,14,15,16,319,320,321,110,11,12,313,17,218,22,223] ?_;refine ax ?_;exact zao):h:=b a
theorem ago(zc:N)(B:bG)(zx:Nat)(z6:ag zc zx 291 (cW B))(zag:V [] zc a)(j:Nat)(zac:zc.heap.size<=j)(o:Qad)(zad:ag a j 392 o)(zan:o.size=816)(aO:aq)(e:aK)(W:aO.dN)(zaj:aT zc aO e)(zq zu:Nat)(zaA:zq<=4)(zar:zu<=4)(cf t:Int)(zZ:-63<=cf/\cf<=63)(z1:-63<=t/\t<=63)(p:Nat)(zax:p<2)(ak:∀s,s<2->(B.G (2+2*p+s)).Ok/\aT zc (B.G (2+2*p+s)) (B.Q (2+2*p+s))):Calls prog 282 #[ab zx,.pointer (some ⟨j,408*p,none⟩),X p,al aO e,X zq,X zu,bQ cf t] a λzL zak=>∃zM zS zW zC zB zQ:Int,zL=.returned (.tuple #[])/\((-63<=zM/\zM<=63)/\(-63<=zS/\zS<=63)/\0<=zW/\zW<=1)/\((-63<=zC/\zC<=63)/\(-63<=zB/\zB<=63)/\0<=zQ/\zQ<=1)/\ag zak j 392 ((cC ((cC o (412*p+5) (bQ zM zS).toList).setIfInBounds (410*p+13) (X zW)) (412*p+7) (bQ zC zB).toList).setIfInBounds (410*p+14) (X zQ))/\V [j] a zak:=by
 have zah:=Y z6;have zau:=Y zad;have r:=Y zan;have zo:=Y λq(zj:V [j] a q)=>show V [] zc q from zag.trans zj λd zaO=>.inr (by rw[df.1 zaO];exact zac);have zw:=Y zaj;have zr:=Y (show aO.y.length=256 by rw[W.toOk.d',W.eN,W.ev]);have zaC:=Y W.toOk.gy;have zaa:=Y ak;refine aG (16*zq) λy zaG=>?_;refine aG (8*zu) λz zaq=>?_;have za6:y<=64:=Z;have zaU:z<=64:=Z;have za3:16*(zq:Int)=(y:Int):=Z;have za0:8*(zu:Int)=(z:Int):=Z;have z':al aO e=#[.int .i64 16,.int .i64 16,.slice e.a aO.y.length e.cJ,.slice e.b aO.u.length e.cT,.slice e.c aO.v.length e.cm]:=by unfold al;rw[W.eN,W.ev];rfl
 rw[z'];clear z6 zad zan zag zac zaj W ak zaG zaq z' zaA zar;match p,zax with
 |0,_=>exact SP 0 5 13 7 14
 |1,_=>exact SP 1 417 423 419 424
def fm(a:aj)(b:Nat)(c:aj):Qad:=((ap a).toList++(.int .i64 (b:Int)::(an .i64 8 c).toList)).toArray
theorem gX(a:aj):(ap a).size=408:=by rw[ap,gI]
theorem sR(a:aj)(b:Nat)(c:aj):(fm a b c).size=417:=by unfold fm;simp only[mW,aZ,cz,nr,gX,gO]
theorem ks(a:aj)(b:Nat)(c:aj):bT prog 322 (fm a b c).size:=by rw[sR];exact⟨_,underlying322,rfl,ar⟩
theorem p7(a:aj)(f:Nat)(e:aj):(fm a f e).all (·.oneCell')=true:=by
 rw[kw];intro v b;have c:=gf a;have d:=e6 (k:=.i64) (g:=8) (h:=e);rw[kw]at c d;simp only[fm,u',bc,bu]at b;rcases b with b|rfl|b
 .exact c v xl
 .rfl
 .exact d v xl
theorem x8:dJ 322 (.agg (fm (λ_=>0) 0 λ_=>0)):=dM
theorem agp(a:aj)(b:Nat)(c:aj):prog.built 322 [(0,.agg (ap a)),(1,.int .i64 (b:Int)),(2,.agg (an .i64 8 c))]=some (fm a b c):=ar
theorem agq{h:Qai}{a:Qax}(e:aj)(d:Nat)(g:aj)(j:ba (bA []) prog y Q za h zb (f.put a.dst (fm e d g)) c)(o:a.op=.build 322 #[(0,zf),(1,W),(2,zd)]:=by rfl) (p:f.eval zf=.agg (ap e):=by rfl) (k:f.eval W=X d:=by rfl) (m:f.eval zd=.agg (an .i64 8 g):=by rfl) (i:(match a.dst with|some b=>decide (b<f.tmps.size)|none=>false)=true:=by rfl) (n:jK a=true:=by rfl) (l:cB a y f:=by rfl):ba (bA []) prog y Q za ((a,0)::h) zb f c:=ra (fm e d g) j o (by simp only[gm,cj,ee,p,k,m];exact agp e d g) i n l
theorem agr{j:Region.Mode}{i:N}{k:Nat}{e:Qaq}(aL:List (Nat×Value))(h:Nat)(g:Nat->World->Prop) (o:hS E x j y i (λp d=>∃a,p=(aL.foldl (λf b=>f.put (some b.1) b.2) f).put (some h) (ab a)/\g a d) k e f c) (l:∀a d,g a d->Q ((aL.foldl (λf b=>f.put (some b.1) b.2) f).put (some h) (ab a)) d):hS E x j y i Q k e f c:=y' (λ_ _ ⟨_,m,n⟩=>m▸l _ _ n) _ _ _ _ o
def ags(b:bG)(g:aj)(d c:aq)(h:aj)(f:Nat)(i:N)(j:Ending)(e:N):Prop:=∃a:Bool,(a=true->jl b=true)/\j=.returned (.bool (o5 (h4 b g d c a) 6))/\ag e f 233 (ap (fl h a (h4 b g d c a) 6))/\V [f] i e
theorem SY(a:h:=by
 skip;go_wp2_with fail
 replace b:=b.drop 2;try dsimp only[List.drop]at b
 exact⟨⟨d+1,Z,a8,by rw[aft,zz.out,zt.out];rfl,Y b⟩,bF⟩):h:=a
theorem SZ(a:C)(b:C->h:=by intro zai;replace b:=b.bd;refine rg [] [0,1,102,3,4,5,7,8,106,109,10,11,12,13,214] ?_;refine ax ?_;refine b.ec (zal.out _ b.aa) ?_;clear b;intro F b;revert F b;exact zai):h:=b a
theorem Ij(j:bG)(u:Nat)(zD:ag a u 291 (cW j))(zM:dA a)(zU:dD)(i:Nat)(o:aj)(J:ag a i 233 (ap o))(l k:aq)(s r:aK)(zv:l.dN)(zn:k.dN)(G:aT a l s)(O:aT a k r)(K:u∉[i]/\(∀d∈bg s,d∉[i])/\(∀d∈bg r,d∉[i])/\2<=i)(m:aj)(zN:hT m)(zV:eD m (j.q:Int)=true):Calls prog 238 #[ab u,ab i,al l s,al k r,an .u8 64 m] a (ags j m l k o i a):=by
 have L:=Y zD;have zad:=Y J;have zl:=Y zv;have zm:=Y zn;have zaq:=Y G;have zah:=Y O;have x:=Y K;have zas:=Y zM;have z7:=Y zU;have zx:=Y zN;have W:=Y zV;have zO:=Y λg(zav:1<=g/\g<=2) e(p:V [i] a e)=>acB e l k s r zv zn (G.S p K.2.1) (O.S p K.2.2.1) g zav;clear zD J zv zn G O K zM zU zN zV;have b:=ao.Ig (ao.nil [] a) zad.out;go_in;go_wp2_with(first|(refine b.aI _ (al l s) ?_;clear b;intro zq zaR b)|(refine b.aI _ (al k r) ?_;clear b;intro zw zaU b)|(refine b.aI _ (an .u8 64 m) ?_;clear b;intro za zaM b))
 refine HZ 17 14 (λ_ e=>∃f:Bool,(f=true->jl j=true)/\Hid (ao [i] a e [(za,24,an .u8 64 m),(zw,71,al k r),(zq,71,al l s),(i,233,ap (aV o 4 f.toInt))])) ?_ ?_
 .refine aG (jl j) λbV zb=>?_;have zal:=Y λe(p:V [i] a e)=>show Calls prog 255 #[ab u] e λn E=>n=.returned (.bool bV)/\V [] e E by rw[<-zb];exact R0 e j u (L.out.S p x.out.1)
  have z6:=Y zb;clear zb;cases bV
  .skip;refine SZ ?_;clear b;intro F b;refine lx ?_;refine x3 ?_;simp only[az];refine x3 ?_;refine ax ?_;refine b.h0 3 (.bool false) (ap (aV o 4 (false:Bool).toInt)) ?_ (r:=oP _ R rfl) (t:=by first|(rw[gX];decide)|(rw[gI];decide));clear b;intro zj b;refine ax ?_;exact⟨lS,ar,false,λzay=>Bool.noConfusion zay,Y b⟩
  .skip;refine SZ ?_;clear b;intro F b;refine ax ?_;refine bN (zO.out 2 R _ b.aa) ?_;rintro n zj ⟨zaD,rfl,zaP,zaS,zi⟩;refine⟨_,rfl,zi,?_⟩;simp only[az];replace b:=b.aS zi;clear zi;refine bN (zO.out 1 R _ b.aa) ?_;rintro n zaj ⟨zaA,rfl,zaX,zaT,z⟩;refine⟨_,rfl,z,?_⟩;replace b:=b.aS z;clear z;refine aG (decide (zaD<zaA)) λf zd=>?_;refine ax ?_;refine b.h0 3 (.bool f) (ap (aV o 4 (f:Bool).toInt)) ?_ (r:=oP _ R rfl) (t:=by first|(rw[gX];decide)|(rw[gI];decide));clear b;intro zaB b;refine ax ?_;exact⟨lS,ar,f,λ_=>z6.out,Y b⟩
 .rintro v zap ⟨f,zd,zy⟩;have zak:=Y zd;clear b zd;refine aG (h4 j m l k f) λaR zau=>?_;have zh:=Y zau;have b:=zy.out;clear zy;rw[afu o f aR]at b;simp only[rh,List.range',r3,vm,az,Nat.reduceAdd];go_wp2_with fail
  go_loopw [31,11] (λw zae wr=>∃d:Nat,d<=6/\w=X d/\zae=.bool (o5 aR d)/\Hid (ao [i] a wr [(za,24,an .u8 64 m),(zw,71,al k r),(zq,71,al l s),(i,233,ap (fl o f aR d))])) (λw _ _=>6-(intOf w).toNat)
  .exact⟨0,Z,rfl,rfl,Y b⟩
  .obtain⟨d,zaW,rfl,rfl,zI⟩:=hrel;clear b;have b:=zI.out;clear zI;refine aG (o5 aR d) λzac zr=>?_;have zz:=Y zr;rw[zr];clear zr;by_cases y:d<6
   .have zax:(d:Int)<6:=Z;have t:=congrFun zh.out d;obtain⟨zE,zX,zP⟩:=zl.out.fO;obtain⟨zK,zB,zL⟩:=zm.out.fO;have zG:=Y λe(p:V [i] a e)=>Fe e l s 0 0 d f zE zX zP y (zaq.out.S p x.out.2.1);have zS:=Y λe(p:V [i] a e)=>Fe e k r 0 0 d f zK zB zL y (zah.out.S p x.out.2.2.1);have B:=R9 zl.out zm.out d f;have D:=Y λe=>Xu e (o4 l k d f) (λh P=>by have:=B h P;omega) (pn.2 B);have C:=Y λe=>show Calls prog 258 #[.agg (an .i64 64 (aO (o4 l k d f))),an .u8 64 m,X (j.q:Int)] e λn E=>n=.returned (.tuple #[.agg (an .i64 64 (jb (aO (o4 l k d f)) m (j.q:Int))),X 0])/\V [] e E by have:=ZN e (aO (o4 l k d f)) m (j.q:Int) (λh P=>by have:=XM B R h P;omega) zx.out;rwa[(Ft _ m _ W.out (Fx B zx.out W.out)).1,(Ft _ m _ W.out (Fx B zx.out W.out)).2]at this
    have ze:=λh=>wV zl.out.toOk 0 0 d f h;have zs:=λh=>wV zm.out.toOk 0 0 d f h;unfold h4 at t;unfold o4 at t D C;generalize J:fQ l 0 0 d f=q at zG ze t D C;generalize zam:fQ k 0 0 d f=n at zS zs t D C;generalize zaa:aO (λh=>q h+-(n h))=zJ at t D C;generalize zaF:jb zJ m (j.q:Int)=Q at t C;have zaw:=Y λe(p:V [i] a e)=>show Calls prog 260 #[an .i64 64 Q,.bool j.h.a] e λn E=>n=.returned (an .i64 64 (aR d))/\V [] e E by rw[<-t];exact X6 e Q j.h.a (Al z7.out e (zas.out.S p (by simpa using x.out.2.2.2)) j.h.a)
    have zW:=Y (And.intro ze zs);clear t zE zX zP zK zB zL B ze zs J zam zaa zaF;have zaz:=λ(c:Nat)(zC:c<64)(e:N)=>oJ n c zC e;have zaf:=b.cl 3 4 rfl CK;go_wp2_with fail
    clear zaf;have zaE:=b.cl 3 4 rfl CK;have zc:=b.fv;have zo:=b.size;replace b:=b.bd;refine rg [10] [0,1,2,3,4,5,106,7,8,109,410,211] ?_;refine ax ?_;refine b.jf (λF b=>zG.out _ b.aa) ?_;clear b;intro _ F b;clear zaE;refine ax ?_;refine b.jf (λzj b=>B0 _ q) ?_;clear b;intro _ zj b;simp only[az];refine lO _ (an .i64 64 λ_=>0) rfl qD rfl ?_;intro zu zaj z zF zH;have ji:=km zH (za:=wr.heap.size) U;simp only[az];replace b:=b.hE zF z (zc.off ji) (b7 zo ji);clear zF z zH;refine b.dq 0 (an .i64 64 q) (a64 _) (e6) ?_;clear b;intro zaB b;refine ax ?_;have zag:=b.cl 4 4 rfl CK;go_wp2_with fail
    clear zag;have zat:=b.cl 4 4 rfl CK;replace b:=b.bd;refine rg [] [0,1,2,3,4,5,10,106,7,8,109] ?_;refine ax ?_;refine b.ec (zS.out _ b.aa) ?_;clear b;intro zaO b;clear zat;refine ax ?_;refine b.ec (B0 _ n) ?_;clear b;intro zap b;refine ax ?_;go_wp2_with fail
    rw[show an .i64 64 q=an .i64 64 (nt q (λh=>-(n h)) 0)from jr λh _=>(M Z).symm]at b;go_loopw [54] (λw wr=>∃c:Nat,c<=64/\w=X c/\Hid (ao [i] a wr [(zu,230,an .i64 64 (nt q (λh=>-(n h)) c)),(za,24,an .u8 64 m),(zw,71,al k r),(zq,71,al l s),(i,233,ap (fl o f aR d))])) (λw _=>64-(intOf w).toNat)
    .exact⟨0,Z,rfl,Y b⟩
    .obtain⟨c,zC,rfl,zQ⟩:=hrel;try clear b
     have b:=zQ.out;clear zQ;by_cases A:c<64
     .have zan:(c:Int)<64:=Z;have zaJ:(c:Int)<64:=Z;have zaI:=zaz c A;have bw:wr.cell? ⟨zu,c,none⟩=some (.int .i64 (q c)):=b.cl 0 c rfl Qb;have zaY:=(b.ai 0 (h:=zu) rfl).eA c;have G:=zW.out.1 c;have O:=zW.out.2 c;go_wp2_with fail
      replace b:=b.uE 0 (v:=X (q c-n c)) (an .i64 64 (nt q (λh=>-(n h)) (c+1))) (P9 q _ A Z);try dsimp only[List.set]at b
      exact Qc
     .have zan:¬((c:Int)<64):=Z;obtain rfl:64=c:=Z;rw[P']at b;go_wp2_with fail
      have zaC:wr.cell? ⟨u,145,none⟩=some (.int .i64 (j.q:Int)):=(L.out.S b.aa x.out.1).au _|>.trans (by exact h3 6);have zc:=b.fv;have zo:=b.size;replace b:=b.bd;refine rg [14] [0,5,6,7,8,9,101,2,3,104,110,11,12,113,414,215] ?_;refine ax ?_;refine b.jf (λzao b=>D.out _) ?_;clear b;intro _ zao b;clear zaC;refine ax ?_;refine b.jf (λz1 b=>B0 _ zJ) ?_;clear b;intro _ z1 b;simp only[az];refine b.jf (λzaH b=>C.out _) ?_;clear b;intro _ zaH b;refine ax ?_;refine b.jf (λz' b=>B0 _ Q) ?_;clear b;intro _ z' b;simp only[az];refine lO _ (an .i64 64 λ_=>0) rfl qD rfl ?_;intro zaK zaV zT zR zY;have zZ:=km zY (za:=wr.heap.size) U;simp only[az];replace b:=b.hE zR zT (zc.off zZ) (b7 zo zZ);clear zR zT zY;refine b.dq 0 (an .i64 64 Q) (a64 _) (e6) ?_;clear b;intro zA b;refine ax ?_;have zar:zA.cell? ⟨u,144,none⟩=some (.bool j.h.a):=(L.out.S b.aa x.out.1).au _|>.trans (by exact h3 5);go_wp2_with fail
      clear zar;have z8:zA.cell? ⟨u,144,none⟩=some (.bool j.h.a):=(L.out.S b.aa x.out.1).au _|>.trans (by exact h3 5);refine ve 9 10 108 212 ?_;clear b;intro b;refine ax ?_;refine b.ec (zaw.out _ b.aa) ?_;clear b;intro zaN b;clear z8;refine ax ?_;refine b.ik 5 (an .i64 64 (aR d)) (ap (cV (fl o f aR d) (24+d*64) 64 (aR d))) (a64 _) e6 ?_ (s:=afw y) (u:=by first|(rw[gO,gX];omega)|(rw[gO,gI];omega));clear b;intro zaL b;refine ax ?_;go_wp2_with fail
      refine aG ((cV (fl o f aR d) (24+d*64) 64 (aR d))) λzp H=>?_;rw[H]at b;have zf:∀e,_:=λe=>afs (bO zp d) e;rw[afr (m:=aR d) λh P=>by rw[<-H];unfold bO cV;rw[ae Z,show 24+64*d+h-(24+d*64)=h from Z]]at zf;refine aG (mM (aR d)) λI zk=>?_;rw[zk]at zf;have zab:=Y H;have zt:=Y zk;clear H zk;replace b:=b.bd;refine rg [] [0,1,2,3,4,5,6,7,8,9,10,11,12,213] ?_;refine y2 ?_;refine b.hZ 5 (an .i64 64 (bO zp d)) (a64 _) ?_ (o:=by exact(so d y));simp only[az];refine ra (an .i64 64 λ_=>0) ?_;refine ax ?_;refine b.h0 5 (.bool I) (ap (aV zp (18+d) I.toInt)) ?_ (r:=oP _ Z (H0 y)) (t:=by first|(rw[gX];omega)|(rw[gI];omega));clear b;intro zaG b;refine ax ?_;rw[<-zab.out,<-zt.out,afv y]at b;have zaQ:zaG.cell? ⟨i,18+d,none⟩=some (.bool I):=b.cl 5 (18+d) rfl (by rw[hX Z (H0 y)];unfold fl;rw[M Z,ae Z,show 18+d-18=d from Z,zt.out];cases I<;>rfl);clear zf;cases zac
      .exact SY
      .exact SY
   .have zax:¬((d:Int)<6):=Z;obtain rfl:d=6:=Z;go_wp2_with fail
    exact gJ rfl ⟨f,zak.out,by rw[zh.out,zz.out];rfl,by rw[zh.out];exact b.ai 3 rfl,b.aa⟩
def eQ(a:aj):Qad:=ie (λb=>hC (b%408)) 816 a
theorem sS(a:aj):(eQ a).size=816:=gI
theorem CN{f:aj}{b a:Nat}(ak:b<2)(h:a<2)(e g:Int):cC (eQ f) (412*b+5+2*a) (bQ e g).toList=eQ (cV f (412*b+5+2*a) 2 λi=>if i=0 then e else g):=nT Z _ rfl λc d=>by
 unfold hB cV;have j:hC ((412*b+5+2*a+c)%408)=false:=(by match b,ak,a,h,c,d with
  |0,_,0,_,0,_|0,_,0,_,1,_|0,_,1,_,0,_|0,_,1,_,1,_|1,_,0,_,0,_|1,_,0,_,1,_|1,_,1,_,0,_|1,_,1,_,1,_=>rfl)
 dsimp only;simp only[j,oF,k2];rw[ae ⟨Z,Z⟩,show 412*b+5+2*a+c-(412*b+5+2*a)=c from Z];match c,d with
 |0,_|1,_=>rfl
theorem Ik{d:aj}{b a:Nat}(ak:b<2)(e:a<2)(c:Int):(eQ d).setIfInBounds (410*b+13+a) (X c)=eQ (aV d (410*b+13+a) c):=ni _ Z (by match b,ak,a,e with
 |0,_,0,_|0,_,1,_|1,_,0,_|1,_,1,_=>rfl)
def rk(c:aj)(b:Nat)(v d:aj):aj:=λa=>if 412*b+5<=a/\a<412*b+9 then v (a-(412*b+5))else if 410*b+13<=a/\a<410*b+15 then d (a-(410*b+13))else c a
structure p8(d:bG)(c:Bool)(v b:aj):Prop where
 S0:∀a,a<4->-63<=v a/\v a<=63
 S1:∀a,a<2->b a=0\/b a=1
 w:c=false->v 2=0/\v 3=0/\b 1=0/\(d.h.s=3->b 0=0)
def vn(i:bG)(e:Bool)(b:Nat)(h:aj)(f:Nat)(d:N)(g:Ending)(a:N):Prop:=∃v c:aj,g=.returned (.tuple #[])/\p8 i e v c/\ag a b 392 (eQ (rk h f v c))/\V [b] d a
def g'(c e b d:Int):aj:=λa=>if a=0 then c else if a=1 then e else if a=2 then b else d
def aU(a c:Int):aj:=λb=>if b=0 then a else c
theorem Il{c e b d:Int}(h:-63<=c/\c<=63)(i:-63<=e/\e<=63)(j:-63<=b/\b<=63)(g:-63<=d/\d<=63):∀a,a<4->-63<=g' c e b d a/\g' c e b d a<=63:=λa f=>by
 match a,f with
 |0,_=>exact h
 |1,_=>exact i
 |2,_=>exact j
 |3,_=>exact g
theorem Im{a b:Int}(f:0<=a/\a<=1)(e:0<=b/\b<=1):∀c,c<2->aU a b c=0\/aU a b c=1:=λc d=>by
 match c,d with
 |0,_=>show a=0\/a=1;omega
 |1,_=>show b=0\/b=1;omega
theorem S2(ak:b<2)(h:∀a,412*b+5<=a/\a<412*b+9\/410*b+13<=a/\a<410*b+15->t a=0)(d f c:Int):eQ (aV (cV t (412*b+5) 2 λg=>if g=0 then d else f) (410*b+13) c)=eQ (rk t b (g' d f 0 0) (aU c 0)):=eY λa _=>by
 unfold aV cV rk g' aU;dsimp only;have e:=h a;repeat' split
 all_goals first|rfl|(exfalso;omega)|exact e Z|exact(e Z).symm
theorem agt(ak:b<2)(f e h d c g:Int):eQ (aV (cV (aV (cV t (412*b+5) 2 λa=>if a=0 then f else e) (410*b+13) h) (412*b+7) 2 λa=>if a=0 then d else c) (410*b+14) g)=eQ (rk t b (g' f e d c) (aU h g)):=eY λi _=>by
 unfold aV cV rk g' aU;dsimp only;repeat' split
 all_goals first|rfl|(exfalso;omega)
theorem agu{c:aj}{a:Nat}(ak:a<2):∀b,b<(bQ (c (4+2*a)) (c (5+2*a))).size->(an .i64 8 c)[4+a*2+b]? =(bQ (c (4+2*a)) (c (5+2*a)))[b]? :=λb d=>by
 have d:b<2:=d;match a,ak,b,d with
 |0,_,0,_|0,_,1,_|1,_,0,_|1,_,1,_=>exact dw R
structure bG.sT(a:bG)(d:N)(b:Nat):Prop where
 w:a.h.s=3->(a.G b).Ok/\aT d (a.G b) (a.Q b)
 f:a.h.s≠3\/jl a=true->∀c,c<2->(a.G (2+2*b+c)).Ok/\aT d (a.G (2+2*b+c)) (a.Q (2+2*b+c))
theorem bG.sT.ad{g:bG}{d h:N}{f:Nat}(b:g.sT d f)(i:V [] d h):g.sT h f:=⟨λa=>⟨(b.w a).1,(b.w a).2.ad i⟩,λa e c=>⟨(b.f a e c).1,(b.f a e c).2.ad i⟩⟩
theorem agv(j:bG)(o:Nat)(y:ag a o 291 (cW j))(k:Nat)(g:aj)(J:ag a k 392 (eQ g))(aO:aq)(n:aK)(D:aO.dN)(z:aT a aO n)(p q:Nat)(F:p<=4)(C:q<=4)(cf l:Int)(E:-63<=cf/\cf<=63)(H:-63<=l/\l<=63)(b:Nat)(e:b<2)(I:j.sT a b) (x:∀h,412*b+5<=h/\h<412*b+9\/410*b+13<=h/\h<410*b+15->g h=0):Calls prog 280 #[ab o,.pointer (some ⟨k,408*b,none⟩),X b,al aO n,X p,X q,bQ cf l] a (vn j false k g b a):=by
 by_cases m:j.h.s=3
 .refine(agj a j o y k _ J (sS _) aO n D z p q F C cf l E H b e m λW L=>L▸I.w m).mono ?_;rintro f K ⟨d,c,rfl,u,t,r,s⟩;refine⟨g' d c 0 0,aU 0 0,rfl,⟨Il u t Z Z,Im Z Z,λ_=>⟨rfl,rfl,rfl,λ_=>rfl⟩⟩,?_,s⟩;have f:=CN (f:=g) e (a:=0) R d c;rw[Ax,fs]at f;rw[f]at r;rw[<-S2 e x];rwa[show aV (cV g (412*b+5) 2 λw=>if w=0 then d else c) (410*b+13) 0=cV g (412*b+5) 2 λw=>if w=0 then d else c from funext λh=>by
   unfold aV cV;split
   .rename_i B;rw[M Z,x h Z]
   .rfl]
 .refine(agk a j o y k _ J (sS _) aO n D z p q F C cf l E H b e m (I.f (.inl m))).mono ?_;rintro f K ⟨d,c,G,rfl,u,t,P,Q,r,s⟩;refine⟨g' d c 0 0,aU G 0,rfl,⟨Il u t Z Z,Im ⟨P,Q⟩ Z,λ_=>⟨rfl,rfl,rfl,λB=>absurd B m⟩⟩,?_,s⟩;have f:=CN (f:=g) e (a:=0) R d c;rw[Ax,fs]at f;have A:=λO=>Ik (d:=O) e (a:=0) R G;rw[f]at r;simp only[fs]at A;rw[A]at r;rwa[<-S2 e x]
theorem agw(e:N)(g:bG)(l:Nat)(z:ag e l 291 (cW g))(J:V [] e a)(f:Nat)(zb:e.heap.size<=f)(t:aj)(zd:ag a f 392 (eQ t))(aO:aq)(j:aK)(F:aO.dN)(A:aT e aO j)(m n:Nat)(L:m<=4)(E:n<=4)(cf h:Int)(K:-63<=cf/\cf<=63)(W:-63<=h/\h<=63)(d:Nat)(c:d<2)(zc:g.sT e d)(G:jl g=true):Calls prog 282 #[ab l,.pointer (some ⟨f,408*d,none⟩),X d,al aO j,X m,X n,bQ cf h] a (vn g true f t d a):=by refine(ago a e g l z J f zb _ zd (sS _) aO j F A m n L E cf h K W d c (zc.f (.inr G))).mono ?_;rintro k ze ⟨x,w,u,q,p,s,rfl,⟨za,D,O⟩,⟨Q,H,I⟩,P,B⟩;refine⟨g' x w q p,aU u s,rfl,⟨Il za D Q H,Im O I,λC=>Bool.noConfusion C⟩,?_,B⟩;have k:=λb=>CN (f:=b) c (a:=0) R x w;have y:=λb=>CN (f:=b) c (a:=1) R q p;have r:=λb=>Ik (d:=b) c (a:=0) R u;have o:=λb=>Ik (d:=b) c (a:=1) R s;simp only[Ax,fs,k3,gk,Nat.reduceAdd]at k y r o;rw[k,r,y,o]at P;rwa[<-agt c]
structure CO(f:N)(p:Nat)(aO:aq)(l:aK)(g k:Nat)(i:aj)(n m j h o:Nat):Prop where
 a:ag f n 286 #[ab p]
 b:ag f m 71 (al aO l)
 c:ag f j 3 #[X g]
 d:ag f h 3 #[X k]
 e:ag f o 274 (an .i64 8 i)
theorem S3(a:h:=by
 have g:=Y r;have z:=Y o;have b:=ao.nil [] a;go_in;have K:a.cell? ⟨j,0,none⟩=some (.pointer (some ⟨k,0,none⟩)):=(g.out.a.S b.aa U).au _|>.trans rfl;have H:a.cell? ⟨i,0,none⟩=some (.int .i64 (l:Int)):=(g.out.c.S b.aa U).au _|>.trans rfl;have J:a.cell? ⟨h,0,none⟩=some (.int .i64 (m:Int)):=(g.out.d.S b.aa U).au _|>.trans rfl;go_wp2_with fail
 have I:a.cell? ⟨j,0,none⟩=some (.pointer (some ⟨k,0,none⟩)):=(g.out.a.S b.aa U).au _|>.trans rfl;have G:a.cell? ⟨i,0,none⟩=some (.int .i64 (l:Int)):=(g.out.c.S b.aa U).au _|>.trans rfl;have E:a.cell? ⟨h,0,none⟩=some (.int .i64 (m:Int)):=(g.out.d.S b.aa U).au _|>.trans rfl;replace b:=b.bd;refine rg [] [0,1,2,3,4,5,6,7,8,9,210] ?_;refine iX ?_;refine iZ aB rfl rfl rfl (g.out.b.S b.aa U) ?_;refine lx ?_;refine hh (aL:=bQ (f (4+2*c)) (f (5+2*c))) dI (g.out.e.S b.aa U) (agu ak) rfl rfl rfl ?_;simp only[az];refine iC (z.out _ b.aa) ?_;rintro e F ⟨v,C,rfl,B,D,A⟩;refine⟨_,rfl,?_⟩;refine ax ?_;go_wp2_with fail
 exact jw (jW rfl _ _ _) rfl ⟨v,C,rfl,B,D,b.aa.up.trans A λd o=>.inl o⟩):h:=a
theorem agx(u:bG)(k:Nat)(q:Bool)(n:Nat)(t:aj)(aO:aq)(s:aK)(l m:Nat)(f:aj)(j x i h w:Nat)(r:CO a k aO s l m f j x i h w)(c y:Nat)(ak:c<2) (o:∀p,V [] a p->Calls prog 280 #[ab k,.pointer (some ⟨n,y,none⟩),X c,al aO s,X l,X m,.agg (bQ (f (4+2*c)) (f (5+2*c)))] p (vn u q n t c p)):Calls prog 279 #[.pointer (some ⟨n,y,none⟩),X c,ab j,ab x,ab i,ab h,ab w] a (vn u q n t c a):=by exact S3
theorem agy(u:bG)(k:Nat)(q:Bool)(n:Nat)(t:aj)(aO:aq)(s:aK)(l m:Nat)(f:aj)(j x i h w:Nat)(r:CO a k aO s l m f j x i h w)(c y:Nat)(ak:c<2) (o:∀p,V [] a p->Calls prog 282 #[ab k,.pointer (some ⟨n,y,none⟩),X c,al aO s,X l,X m,.agg (bQ (f (4+2*c)) (f (5+2*c)))] p (vn u q n t c p)):Calls prog 281 #[.pointer (some ⟨n,y,none⟩),X c,ab j,ab x,ab i,ab h,ab w] a (vn u q n t c a):=by exact S3
def e3(c:Bool)(b:Nat)(v d:aj):aj:=λa=>if a=0 then 2 else if a=1+b then 1 else if a=3 then c.toInt else if 5+4*b<=a/\a<9+4*b then v (a-(5+4*b))else if 13+2*b<=a/\a<15+2*b then d (a-(13+2*b))else 0
def j3(b:Bool)(v e d c:aj):aj:=λa=>if a=2 then 1 else if 9<=a/\a<13 then d (a-9)else if 15<=a/\a<17 then c (a-15)else e3 b 0 v e a
def o8(b:Bool):aj:=λa=>if a=0 then 2 else if a=3 then b.toInt else 0
def j4(d:Bool)(c b:Qan)(e:Nat):aj:=λa=>if a/408<e then e3 d (a/408) (c (a/408)) (b (a/408)) (a%408)else 0
theorem S4(b:Bool)(c a:Qan):eQ (λ_=>0)=eQ (j4 b c a 0):=eY λd _=>by unfold j4;rw[M Z]
def aJ(b:Nat->z)(c:Nat)(v:z):Nat->z:=λa=>if a=c then v else b a
def p9(b:Bool)(d c:Qan)(a:Nat):aj:=aV (cV (j4 b d c a) (a*408) 408 (o8 b)) (a*408+1+a) 1
theorem agz(ak:b<2)(a:Nat)(c:412*b+5<=a/\a<412*b+9\/410*b+13<=a/\a<410*b+15):p9 i r O b a=0:=by unfold p9 aV cV o8;rw[M Z,ae Z,M Z,M Z]
theorem S5(ak:b<2)(v l:aj):eQ (rk (p9 i r O b) b v l)=eQ (j4 i (aJ r b v) (aJ O b l) (b+1)):=eY λd o=>by
 by_cases f:d/408=b
 .obtain⟨a,p,rfl⟩:∃a,a<408/\d=b*408+a:=⟨d%408,nc _ R,Z⟩;have m:(b*408+a)/408=b:=f;have n:(b*408+a)%408=a:=Z;unfold j4 e3 aJ;rw[m,n,ae Z,ae rfl,ae rfl];unfold rk p9 aV cV o8;by_cases g:5+4*b<=a/\a<9+4*b
  .rw[ae Z,M Z,M Z,M Z,ae g,show b*408+a-(412*b+5)=a-(5+4*b)from Z]
  .rw[M Z];by_cases k:13+2*b<=a/\a<15+2*b
   .rw[ae Z,M Z,M Z,M Z,M g,ae k,show b*408+a-(410*b+13)=a-(13+2*b)from Z]
   .rw[M Z];by_cases j:a=1+b
    .rw[ae Z,M Z,ae j]
    .rw[M Z,ae Z,show b*408+a-b*408=a from Z];by_cases e:a=0
     .rw[ae e,ae e]
     .rw[M e,M e,M j];by_cases c:a=3
      .rw[ae c,ae c]
      .rw[M c,M c,M g,M k]
 .unfold rk p9 aV cV j4 aJ;rw[M Z,M Z,M Z,M Z,M f,M f];by_cases h:d/408<b
  .rw[ae h,ae Z]
  .rw[M h,M Z]
theorem S6{c:aj}(ak:b<2):cC (eQ t) (b*408) (ap c).toList=eQ (cV t (b*408) 408 c):=nT Z _ (by rw[nr,gX]) λa d=>by unfold hB cV;dsimp only;have e:(b*408+a)%408=a:=Z;simp only[e];rw[show(if b*408<=b*408+a/\b*408+a<b*408+408 then c (b*408+a-b*408)else t (b*408+a))=c a by rw[ae ⟨Z,Z⟩,show b*408+a-b*408=a from Z],eo,uK d];rfl
theorem S7{b:aj}{a:Nat}(ak:a<2):(eQ b).setIfInBounds (a*408+1+a) (.bool true)=eQ (aV b (a*408+1+a) 1):=oP true Z (by match a,ak with
 |0,_|1,_=>rfl)
theorem agA(ak:b<2)(d:q<408):(eQ t)[b*408+q]? =some (hB hC (λa=>t (b*408+a)) q):=by rw[eQ,pJ Z];unfold hB;have c:(b*408+q)%408=q:=Z;simp only[c]
theorem CP(ak:b<2)(d:b<J):∀a,a<(ap (e3 i b (r b) (O b))).size->(eQ (j4 i r O J))[b*408+a]? =(ap (e3 i b (r b) (O b)))[a]? :=λa c=>by rw[gX]at c;rw[agA ak c,uK c];unfold hB j4;dsimp only;rw[show(b*408+a)/408=b from Z,show(b*408+a)%408=a from Z,ae d]
theorem agB{e:Bool}{a c:Qan}:∀b,b<4->(eQ (j4 e a c 2))[417+b]? =(#[X (a 1 0),X (a 1 1),X (a 1 2),X (a 1 3)]:Qad)[b]? :=λb d=>by
 match b,d with
 |0,_|1,_|2,_|3,_=>exact w2 R rfl
theorem agC{e:Bool}{d b:Qan}:∀a,a<2->(eQ (j4 e d b 2))[423+a]? =(#[X (b 1 0),X (b 1 1)]:Qad)[a]? :=λa c=>by
 match a,c with
 |0,_|1,_=>exact w2 R rfl
theorem S8(a v:aj):cC (ap a) 9 (#[X (v 0),X (v 1),X (v 2),X (v 3)]:Qad).toList=ap (cV a 9 4 v):=nT (r:=4) R _ rfl λb c=>by
 match b,c with
 |0,_|1,_|2,_|3,_=>rfl
theorem S9(b a:aj):cC (ap b) 15 (#[X (a 0),X (a 1)]:Qad).toList=ap (cV b 15 2 a):=nT (r:=2) R _ rfl λc d=>by
 match c,d with
 |0,_|1,_=>rfl
theorem agD{b:aj}(c:∀a,t a=if a=2 then 1 else if 9<=a/\a<9+4 then H (a-9)else if 15<=a/\a<15+2 then F (a-15)else e3 i 0 v b a):ap t=ap (j3 i v b H F):=eY λa _=>c a
theorem agE(a:Bool):prog.built 233 [(0,.int .i64 2),(2,.bool a)]=some (ap (o8 a)):=by cases a<;>kernel_rfl
theorem S'{a:Qax}{e:Qaa}{d:Qau}(b:Bool)(h:wpList prog y e ze (f.put a.dst (ap (o8 b))) c)(i:a.guard=none:=by rfl)(k:a.op=.build 233 #[(0,.const (X 2)),(2,d)]:=by rfl)(j:f.eval d=.bool b:=by rfl):wpList prog y e (a::ze) f c:=fU (T:=233) (ap (o8 b)) h i k (by have g:f.eval (.const (X 2))=X 2:=rfl;simp only[gm,cj,ee,g,j];exact agE b)
structure kt(d:bG)(a:aj):Prop where
 k:a 0=2
 u:a 1=1\/a 2=1
 f:∀c,1<=c->c<=3->a c=0\/a c=1
 z4:a 4=0
 z:∀c,17<=c->c<408->a c=0
 lb:d.h.t=2->a 1=1/\a 2=0
 pL:a 3=1->jl d=true
 off:∀b,b<2->a (1+b)=0->(∀k,k<4->a (5+4*b+k)=0)/\∀k,k<2->a (13+2*b+k)=0
 v:∀b,b<2->∀k,k<4->-63<=a (5+4*b+k)/\a (5+4*b+k)<=63
 s:∀b,b<2->∀k,k<2->a (13+2*b+k)=0\/a (13+2*b+k)=1
 w:∀b,b<2->a 3=0->a (5+4*b+2)=0/\a (5+4*b+3)=0/\a (13+2*b+1)=0/\(d.h.s=3->a (13+2*b)=0)
theorem Io{a:aj}(ak:b<2)(c:d<4):e3 i b v a (5+4*b+d)=v d:=by unfold e3;rw[M Z,M Z,M Z,ae Z,show 5+4*b+d-(5+4*b)=d from Z]
theorem Ip{a:aj}(ak:b<2)(c:d<2):e3 i b v a (13+2*b+d)=a d:=by unfold e3;rw[M Z,M Z,M Z,M Z,ae Z,show 13+2*b+d-(13+2*b)=d from Z]
theorem o9{g:aj}(e:q≠0)(d:q≠1+b)(c:q≠3)(f:¬(5+4*b<=q/\q<9+4*b))(a:¬(13+2*b<=q/\q<15+2*b)):e3 i b v g q=0:=by unfold e3;rw[M e,M d,M c,M f,M a]
theorem Iq{a:aj}(ak:b<2):e3 i b v a 3=i.toInt:=by unfold e3;rw[M Z,M Z,ae rfl]
theorem agF{a:aj}:e3 i b v a (1+b)=1:=by unfold e3;rw[M Z,ae rfl]
theorem Ir{h:bG}{j:aj}(ak:b<2)(a:p8 h i v j)(c:i=true->jl h=true)(p:h.h.t=2->b=0):kt h (e3 i b v j) where
 k:=rfl
 u:=by match b,ak with
  |0,_=>exact .inl rfl
  |1,_=>exact .inr rfl
 f q h1 o:=by
  unfold e3;rw[M Z];by_cases k:q=1+b
  .rw[ae k];exact .inr rfl
  .rw[M k];by_cases l:q=3
   .rw[ae l];cases i;exact .inl rfl;exact .inr rfl
   .rw[M l,M Z,M Z];exact .inl rfl
 z4:=o9 R Z R Z Z
 z q h1 o:=o9 Z Z Z Z Z
 lb a:=by obtain rfl:=p a;exact⟨rfl,rfl⟩
 pL a:=by rw[Iq ak]at a;cases i;exact absurd a R;exact c rfl
 off e he a:=by
  have s:e≠b:=λf=>by rw[f,agF]at a;exact absurd a R
  exact⟨λd c=>o9 Z Z Z Z Z,λd c=>o9 Z Z Z Z Z⟩
 v e he d c:=by
  by_cases f:e=b
  .rw[f,Io ak c];exact a.S0 d c
  .rw[o9 Z Z Z Z Z];omega
 s e he d c:=by
  by_cases f:e=b
  .rw[f,Ip ak c];exact a.S1 d c
  .rw[o9 Z Z Z Z Z];exact .inl rfl
 w e he m:=by
  have r:i=false:=by rw[Iq ak]at m;cases i;rfl;exact absurd m R
  have g:=a.w r;by_cases f:e=b
  .rw[f,Io ak (by decide:2<4),Io ak (by decide:3<4),Ip ak (by decide:1<2)];refine⟨g.1,g.2.1,g.2.2.1,λn=>?_⟩;have:=Ip (i:=i) (v:=v) (a:=j) ak (by decide:0<2);rw[fs]at this;rw[this];exact g.2.2.2 n
  .exact⟨o9 Z Z Z Z Z,o9 Z Z Z Z Z,o9 Z Z Z Z Z,λ_=>o9 Z Z Z Z Z⟩
theorem Ta{k:bG}{e:aj}(s:p8 k i v e)(m:p8 k i H F)(d:i=true->jl k=true)(r:k.h.t≠2):kt k (j3 i v e H F):=by
 have h:=Ir (b:=0) R s d λb=>absurd b r;have cI:∀c,c≠2->¬(9<=c/\c<13)->¬(15<=c/\c<17)->j3 i v e H F c=e3 i 0 v e c:=λc j l p=>by unfold j3;rw[M j,M l,M p]
 have n:∀a,a<4->j3 i v e H F (5+4*1+a)=H a:=λa d=>by unfold j3;rw[M Z,ae Z,show 5+4*1+a-9=a from Z]
 have o:∀a,a<2->j3 i v e H F (13+2*1+a)=F a:=λa d=>by unfold j3;rw[M Z,M Z,ae Z,show 13+2*1+a-15=a from Z]
 have p:j3 i v e H F 3=e3 i 0 v e 3:=rfl;refine⟨rfl,.inl rfl,λc j l=>?_,rfl,λc j l=>by rw[cI c Z Z Z];exact h.z c j l,λb=>absurd b r,λb=>h.pL b,λf g b=>?_,λf g a d=>?_,λf g a d=>?_,λf g b=>?_⟩
 .by_cases b:c=2
  .rw[b];exact .inr rfl
  .rw[cI c b Z Z];exact h.f c j l
 .match f,g with
  |0,_=>exact absurd (show(1:Int)=0 from b) R
  |1,_=>exact absurd (show(1:Int)=0 from b) R
 .match f,g with
  |0,_=>rw[cI _ Z Z Z];exact h.v 0 R a d
  |1,_=>rw[n a d];exact m.S0 a d
 .match f,g with
  |0,_=>rw[cI _ Z Z Z];exact h.s 0 R a d
  |1,_=>rw[o a d];exact m.S1 a d
 .have t:i=false:=by rw[p,Iq R]at b;cases i;rfl;exact absurd b R
  match f,g with
  |0,_=>exact h.w 0 R b
  |1,_=>have:=m.w t;have q:=o 0 R;rw[fs]at q;rw[n 2 R,n 3 R,o 1 R,q];exact this
theorem x9{a:N}{b:Nat}{f e:Obj}(g:a.heap[b]? =some f):V [b] a (a.putObj b e):=⟨rfl,rfl,rfl,U,λh _ c=>World.putObj_heap_other (λd=>c (by simp[d]))⟩
structure CQ{h:Type}(i:af)(e:List Nat->List h->World->Prop):Prop where
 aS:∀a c b f g,e a c b->V g b f->(∀d∈g,d∉a/\d∉i)->e a c f
 lt:∀a c b,e a c b->∀d∈a,d<b.heap.size
def Tb(j:Nat)(k:Qav)(q:Nat)(r:Qad)(s:z->Array Value)(n:List z)(l:af)(p:N):Prop:=∀(m:Nat)(c:List Nat->List z->World->Prop)(cN:af)(d:N),V [] p d->CQ l c->(∀a∈l,a∉cN)->(∀b i h f,c b i f->(∃post,n=i++h::post)->YieldAt Fence.wide (j-1) k m (s h) f λg e=>g=.returned (.bool true)/\∃o,c o (i++[h]) e/\(∀a∈o,a∈b\/f.heap.size<=a)/\V b f e)->c cN [] d->CallsIn Fence.wide j k q (#[.func (.yield m) #[] #[]]++r) d λg e=>(∃v,g=.returned v)/\∃b,c b n e/\∀a∈b,a∈cN\/d.heap.size<=a
theorem agG{zu:Qau}{zb:Array Tmp}{assign P:Code}{zB:Qaa}{Q:Qad}{za:z->Array Value}{O:List z}{s:List Nat->List z->World->Prop}{zm:z->Act->List Nat->List z->World->Prop}{cN:af} (zK:1<=J) (zZ:f.eval zu=.func (.func I) #[] Q) (zM:∀args c,(callFunc I args).run x c=.ok (.enter I args) c) (zaa:∀h,(za h).size=zb.size) (D:CQ u s) (zL:∀h m,CQ u (zm h m)) (zH:∀a∈u,a∉cN/\a<c.heap.size) (zI:s cN [] c) (zS:Tb (J-1) x I Q za O u c) (zQ:∀zf i j h g(zs:Qab),s i j g->(∃post,O=j++h::post)->(∀m w H,zm h m H j w->(∀a∈H,a∈i\/g.heap.size<=a)->V i g w->zs m w)->assign.wpIn (Fence.wide.inRound zf) (J-1-1) x (Exit.then zs (λ_ _ _=>False)) {tmps:=(zb.zip (za h)).foldl (λzN(zac,v)=>zN.setIfInBounds zac v) f.tmps,defers:=[]} g) (zV:∀zf i j h m g,zm h m i j g->(∃post,O=j++h::post)->P.wpIn (Fence.wide.inRound zf) (J-1-1) x (λzi _ w=>zi=.normal/\∃H,s H (j++[h]) w/\(∀a∈H,a∈i\/g.heap.size<=a)/\V i g w) m g) (zae:∀(ze:Nat) i(g:N),c.heap.size<=ze->s i O g->g.heap[ze]? =some (.deferred (some []))->zB .normal {f with defers:={target:=.collected ze,args:=#[]}::f.defers} g):(Code.rangeFunc zu zb assign P).wpIn Fence.wide J x zB f c:=by
 refine wpIn_rangeFunc ?_;intro zA zad;obtain⟨n,q⟩:∃n:LoopState->Loop,n=λzab=>{state:=zab,pending:=none,fn:=zA,tmps:=f.tmps,params:=zb,assign:=assign,body:=P,defers:=c.heap.size}:=⟨_,rfl⟩;refine aG ((c.alloc (.deferred (some []))).alloc (.loop (n .ready))) λp L=>?_;have zag:p.heap[c.heap.size+1]? =some (.loop (n .ready)):=by rw[<-L];have:=World.alloc_heap_new (c.alloc (.deferred (some []))) (.loop (n .ready));rwa[World.size_alloc]at this
 have zU:p.heap[c.heap.size]? =some (.deferred (some [])):=by rw[<-L];exact(Go.RowKit.Below.heap_alloc _ _ _ U).trans (World.alloc_heap_new c _)
 have zy:V [] c p:=by
  have G:Go.RowKit.Below c.heap.size c p:=by rw[<-L];exact(((Go.RowKit.Below.refl _ c).alloc (a' _) _).alloc U _)
  exact⟨G.os,G.tape,G.output,G.size,λa b _=>G.block a b⟩
 have zaf:s cN [] p:=D.aS _ _ _ _ [] zI zy U;have zD:=D.lt _ _ _ zI;have zj:c.heap.size+1∉u:=λd=>by have:=(zH _ d).2;omega
 refine⟨c.heap.size+1,[{target:=.collected c.heap.size,args:=#[]}],p,{target:=.fn (.func I) Q,args:=#[.func (.yield (c.heap.size+1)) #[] #[]]},p,I,#[.func (.yield (c.heap.size+1)) #[] #[]]++Q,p,?_,?_,?_,?_,λ_=>zK,?_⟩
 .rw[<-L,q];exact run_enterLoop_outer _ _ _ _ _
 .simp only[resolve,zZ];simp[go_sem]
 .intro zal zak;trivial
 .simp[invoke,go_sem,zM]
 .refine(zS (c.heap.size+1) (λi j g=>∃k,i=(c.heap.size+1)::c.heap.size::k/\s k j g/\c.heap.size+1∉k/\c.heap.size∉k/\g.heap[c.heap.size+1]? =some (.loop (n .ready))/\g.heap[c.heap.size]? =some (.deferred (some []))) ((c.heap.size+1)::c.heap.size::cN) p zy ⟨?_,?_⟩ ?_ ?_ ⟨cN,rfl,zaf,λd=>?_,λd=>?_,zag,zU⟩).mono ?_
  .rintro i j g w E ⟨k,rfl,t,r,C,l,b⟩ zk W;refine⟨k,rfl,D.aS _ _ _ _ E t zk λa b=>⟨λe=>(W a b).1 (by simp[e]),(W a b).2⟩,r,C,?_,?_⟩
   .rw[zk.block _ (ht.1 l).1 λe=>(W _ e).1 U];exact l
   .rw[zk.block _ (ht.1 b).1 λe=>(W _ e).1 U];exact b
  .rintro i j g ⟨k,rfl,t,r,C,l,b⟩ a e;rcases bu.1 e with rfl|e
   .exact(ht.1 l).1
   rcases bu.1 e with rfl|e
   .exact(ht.1 b).1
   .exact D.lt _ _ _ t a e
  .intro a b e;have:=zH a b;rcases bu.1 e with rfl|e
   .omega
   rcases bu.1 e with rfl|e
   .omega
   .exact this.1 e
  .rintro i j h g ⟨k,rfl,t,r,C,l,b⟩ zF;have zY:=(ht.1 l).1;have zR:=(ht.1 b).1;have zt:=run_yield (P:=x) (args:=za h) l (by rw[q];exact zaa h);rw[q]at zt;refine⟨zA,_,assign,P,zt,roundIn_of_wpIn zad (zQ _ k j h g _ t zF ?_)⟩;intro m zn zc zJ K y;have zl:zn.heap[c.heap.size+1]? =some (.loop (n .ready)):=(y.block _ zY r).trans l;have zP:=(y.block _ zR C).trans b;have zq:c.heap.size+1∉zc:=λd=>(K _ d).elim r Z;have zC:c.heap.size∉zc:=λd=>(K _ d).elim C Z;have zT:=(ht.1 zl).1;obtain⟨zp,zx⟩:∃zp:Loop,zp={n .ready with state:=.busy}:=⟨_,rfl⟩;obtain⟨B,zW,A,zw,zX⟩:∃B,(Instr.beginRound (c.heap.size+1)).run x zn=.ok () B/\V [c.heap.size+1] zn B/\B.heap[c.heap.size+1]? =some (.loop zp)/\B.heap[c.heap.size]? =some (.deferred (some [])):=⟨_,by rw[zx];exact run_beginRound zl (by rw[q]),x9 zl,World.putObj_heap_same zT,(World.putObj_heap_other Z).trans zP⟩;refine⟨B,zW,?_⟩;have z7:=(ht.1 zw).1;refine wpIn_mono (zV _ zc j h m _ ((zL h m).aS _ _ _ _ [_] zJ A (λa b=>by rw[df.1 b];exact⟨zq,zj⟩)) zF) ?_;rintro zi zai zr ⟨rfl,zd,zah,zh,o⟩;have zo:=(o.block _ z7 zq).trans zw;have z6:=(o.block _ Z zC).trans zX;have zG:c.heap.size+1∉zd:=λd=>(zh _ d).elim zq Z;have zO:c.heap.size∉zd:=λd=>(zh _ d).elim zC Z;have zam:=y.size;have zan:=A.size;have zao:=o.size;have z':(Instr.endRound (c.heap.size+1) none).run x zr=.ok (.bool true) (zr.putObj (c.heap.size+1) (.loop (n .ready))):=by have:=run_endRound (P:=x) none zo;rw[zx,q]at this;rw[q];exact this
   have z8:=(ht.1 zo).1;have F:=x9 (e:=.loop (n .ready)) zo;refine⟨_,_,z',rfl,(c.heap.size+1)::c.heap.size::zd,⟨zd,rfl,D.aS _ _ _ _ [_] zah F (λa b=>by rw[df.1 b];exact⟨zG,zj⟩),zG,zO,World.putObj_heap_same z8,(World.putObj_heap_other Z).trans z6⟩,?_,?_⟩
   .intro a e;rcases bu.1 e with rfl|e
    .exact .inl U
    rcases bu.1 e with rfl|e
    .exact .inl U
    rcases zh a e with d|d
    .exact(K a d).imp (λd=>nj) id
    .exact .inr Z
   .refine V.mk (by rw[F.os,o.os,A.os,y.os]) (by rw[F.tape,o.tape,A.tape,y.tape]) (by rw[F.output,o.output,A.output,y.output]) (by have:=o.size;have:=F.size;omega) λa b zE=>?_;have zz:a∉k:=λd=>zE nj;have zv:a∉[c.heap.size+1]:=λd=>zE (by simp at d;simp[d]);have z1:a∉zc:=λd=>(K _ d).elim zz Z;have:=o.size;rw[F.block a Z zv,o.block a Z z1,A.block a Z zv,y.block a b zz]
  .have:=zD _ d;omega
  .have:=zD _ d;omega
  .rintro zi zaj ⟨⟨v,rfl⟩,i,⟨k,rfl,t,r,C,l,b⟩,_⟩;refine⟨none,_,by have:=run_endLoop (P:=x) l (by rw[q];simp);rw[q]at this;exact this,zae _ k _ (a' _) (D.aS _ _ _ _ [c.heap.size+1] t (x9 l) (λa b=>by rw[df.1 b];exact⟨r,zj⟩)) ((World.putObj_heap_other Z).trans b)⟩
def rl(a:cA):Bool:=(!a.waiting||(decide (0<=a.b1)&&decide (a.b1<a.es.length)))&&(decide (0<=a.shown)&&(decide (a.shown<=1000)&&(decide (a.es.length<=1000)&&(decide (-1<=a.link)&&decide (a.link<=1000)))))
structure agH(a:cA):Prop where
 w:a.waiting=true->∃k:Nat,a.b1=(k:Int)/\k<a.es.length
 s:0<=a.shown/\a.shown<=1000000
 n:a.es.length<=100000
 l:-1<=a.link/\a.link<=1000000
theorem Tc{b:cA}(c:rl b=true):agH b:=by
 simp only[rl,dB,k5,x5,mX]at c;obtain⟨a,f,h,i,g,j⟩:=c;refine⟨λd=>?_,⟨f,Z⟩,Z,⟨g,Z⟩⟩;rcases a with a|⟨e,k⟩
 .rw[d]at a;cases a
 .exact⟨b.b1.toNat,(kR e).symm,Z⟩
def p'(a:cA)(b:fA):cA:=
 let a:=if b.reset then{a.flush with ed:=-1,b1:=-1,link:=0}else a
 if b.link≠-1 then{a with link:=b.link}else a
def CR(a:cA)(b:fA):Bool:=rl a&&(if b.head.t==3 then a.link==0&&a.ed !=-1&&a.b1 !=-1 else b.head.t !=2||a.b1 !=-1)
def qa:cA->List fA->Bool
 |b,[]=>rl b
 |b,a::g=>rl b&&CR (p' b a) a&&qa (b.step a) g
theorem Td:∀{f:List fA}{c:cA},qa c f=true->∀{b post:List fA}{d:fA},f=b++d::post->rl (b.foldl cA.step c)=true/\CR (p' (b.foldl cA.step c) d) d=true
 |h::f,c,a,[],post,d,e=>by simp only[qa,dB]at a;obtain⟨rfl,_⟩:=List.cons.inj e;exact⟨a.1.1,a.1.2⟩
 |h::f,c,a,i::b,post,d,e=>by simp only[qa,dB]at a;have g:=List.cons.inj e;rw[<-g.1];exact Td (f:=f) a.2 g.2
 |[],c,a,b,post,d,e=>by cases b<;>cases e
theorem Te:∀{a:List fA}{b:cA},qa b a=true->rl (a.foldl cA.step b)=true
 |[],b,c=>c
 |d::a,b,c=>by simp only[qa,dB]at c;exact Te (a:=a) c.2
theorem agI(i:af)(g:aD)(e:Nat)(f:cA)(c:fA)(j:e2 i a g a e f)(l:CR f c=true):Calls prog 68 #[ab e,c4 g c] a λm o=>m=.returned (.tuple #[])/\e2 i a g o e (f.frame c):=by
 simp only[CR,dB]at l;obtain⟨n,d⟩:=l;have b:=Tc n;by_cases h:c.head.t=3
 .rw[ae (by simp[h])]at d;simp only[dB,qA,iz]at d;exact afK a i g e f c j b.w b.s b.n (by simp[h]) d.1.1 (by simp[d.1.2]) (by simp[d.2])
 .rw[M (by simp[h])]at d;by_cases k:c.head.t=2
  .simp only[k,bne_self_eq_false,tj,qA]at d;exact afJ a i g e f c j b.w b.s b.n b.l (by simp[h]) (by simp[k]) r1
  .exact afI a i g e f c j b.w b.s b.n b.l (by simp[h]) (by simp[k])
theorem Tf(d:af)(f:aD)(b:Nat)(c:cA)(g:e2 d a f a b c)(ak:rl c=true):Calls prog 67 #[ab b] a λh i=>h=.returned (.tuple #[])/\e2 d a f i b c.flush:=by have e:=Tc ak;exact Sa a d f b c g e.w e.s (by have:=e.n;omega)
def mO(f:af)(d:N)(i:aD)(g:Nat)(c:af)(b:N)(h:cA):Prop:=(∀a∈c,a<b.heap.size)/\(∀a,a<d.heap.size->a∉f->a∈c)/\V [] d b/\∃e,(∀a∈e,a∈c/\d.heap.size<=a)/\e2 e b i b g h
theorem e2.still{e:N}{c:cA}(k:e2 m e p e B c)(l:V E e A)(j:∀n∈E,n∉m):e2 m A p A B c:=by obtain⟨i,f,h,d,o⟩:=k;have g:∀a∈((B,153,fZ i c.es.length f c)::h),a.1∈m:=λa b=>(d.h.n a b).resolve_right λr=>absurd (d.h.b a b).lt Z;exact⟨i,f,h,⟨⟨V.refl _ _,λa b=>(d.h.b a b).S l λq=>j _ q (g a b),d.h.d,λa b=>.inl (g a b)⟩,⟨U,U,U⟩,trivial,λ_ _ _ _ _ _=>trivial⟩,o⟩
theorem mO.aS{g:N}{h:cA}(k:mO u L p B s g h)(b:V E g A)(f:∀a∈E,a∉s/\a∉u):mO u L p B s A h:=by obtain⟨l,j,d,m,i,n⟩:=k;refine⟨λa c=>gD (l a c) b.size,j,⟨b.os.trans d.os,b.tape.trans d.tape,b.output.trans d.output,b7 d.size b.size,λa c _=>?_⟩,m,i,n.still b λa c e=>(f a c).1 (i a e).1⟩;rw[b.block a (gD c d.size) λe=>(f a e).1 (j a c (f a e).2)];exact d.block a c U
theorem mO.ok(b:af)(h:N)(k:aD)(f:Nat)(j:cA):CQ b (λg(d:List fA) e=>mO b h k f g e (d.foldl cA.step j)):=⟨λ_ _ _ _ _ a i c=>a.aS i c,λ_ _ _ a=>a.1⟩
theorem mO.next{h:af}{c:N}{r f:cA}(o:mO u L p B s c r)(d:∀b∈h,b∈s/\L.heap.size<=b)(t:e2 h c p A B f):∃m,mO u L p B m A f/\(∀b∈m,b∈s\/c.heap.size<=b)/\V s c A:=by
 obtain⟨q,w,l,_⟩:=o;obtain⟨n,i,k,e,z⟩:=t;have g:V h c A:=e.aa;have j:=e.CM;refine⟨s++((((B,153,fZ n f.es.length i f)::k).map (·.1))++[]),⟨λb a=>?_,λb a x=>bc.2 (.inl (w b a x)),l.trans g λb a=>.inr (d b a).2,_,λb a=>⟨bc.2 (.inr a),?_⟩,n,i,k,e.CL,z⟩,λb a=>?_,g.mono λb a=>(d b a).1⟩
 .rcases bc.1 a with a|a
  .exact gD (q b a) g.size
  .rw[eG]at a;obtain⟨y,C,rfl⟩:=ca.1 a;exact(e.h.b y C).lt
 .rcases j b a with a|a
  .exact(d b a).2
  .exact b7 l.size a
 .rcases bc.1 a with a|a
  .exact .inl a
  .exact(j b a).imp (λa=>(d b a).1) id
def CS(f:af)(d:N)(e:aD)(g:Nat)(j:fA)(a:Nat)(i:af)(c:N)(h:cA):Prop:=∃b,i=a::b/\mO f d e g b c h/\a∉b/\d.heap.size<=a/\ag c a 158 (c4 e j)
theorem CS.aS{h:fA}{d:N}{f:cA}(i:CS u L p B h I s d f)(e:V E d A)(b:∀a∈E,a∉s/\a∉u):CS u L p B h I s A f:=by obtain⟨m,rfl,j,l,n,k⟩:=i;exact⟨m,rfl,j.aS e λa g=>⟨λc=>(b a g).1 (by simp[c]),(b a g).2⟩,l,n,k.S e λc=>(b _ c).1 U⟩
