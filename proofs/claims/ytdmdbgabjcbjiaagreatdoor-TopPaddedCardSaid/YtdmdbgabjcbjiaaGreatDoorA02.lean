import Derived.Test.YtdmdbgabjcbjiaaGreatDoorA00
import Derived.BigQuiet
import Derived.Deep.Fields
import Derived.Deep.RegionHeld3
import Derived.Deep.WholeRow
import Derived.Great.BuildSlice
import Derived.Lib.BitFns
import Derived.OpenShut
import Derived.ProofKit
import Derived.StillTailTactics
import Derived.Test.YtdmdbgabjcbjiaaGreatDoorRows
set_option maxHeartbeats 0
set_option maxRecDepth 100000
set_option linter.all false
namespace Go.Proofs.YtdmdbgabjcbjiaaGreatDoor
open Go.RowKit fD cr hs a7 _root_.Go.Proofs.Tryz
variable{l:Qah}{i b f e:Nat}{d c:Int}{g:Nat×List Nat}{k n:N}(a:Qah)(v:Nat)
namespace fD
def bitsOf(v a:Nat):Qah:=(List.range a).map λb=>v.testBit (a-1-b)
def num(b:Qah):Nat:=b.foldl (λa c=>2*a+c.toNat) 0
def ff(c:Qah)(a:Nat):Nat:=num ((List.range 8).map λb=>c.getD (8*a+b) false)
def pack(a:Qah):af:=(List.range ((a.length+7)/8)).map (ff a)
def bh(a:Qah):af:=pack (a++[true])
theorem kh(a:Nat):(bitsOf v a).length=a:=by simp[bitsOf]
theorem r2:(bh a).length=a.length/8+1:=by simp[bh,pack];omega
theorem Yx(b:Nat):a.foldl (λb c=>2*b+c.toNat) b=b*2^a.length+num a:=by
 induction a generalizing b with
 |nil=>simp[num]
 |cons c a d=>simp only[r3,cz,num];rw[d,d (2*0+c.toNat),tE];generalize 2^a.length=e;rw[nO,eF e 2,<-wy b 2 e,eF b 2,Ax,c'];omega
theorem Yy(b:Bool):num (a++[b])=2*num a+b.toNat:=by simp[num,Ay]
theorem Yz(b:Qah):num (a++b)=num a*2^b.length+num b:=by unfold num;rw[Ay,Yx];rfl
theorem LB(b:Bool)(a:Qah):num (b::a)=b.toNat*2^a.length+num a:=by have:=Yz [b] a;simpa[num]using this
theorem tF:num a<2^a.length:=by
 induction a with
 |nil=>simp[num]
 |cons b a c=>rw[LB,cz,tE];cases b<;>simp<;>omega
theorem LC(b:Nat):(num a).testBit b=(decide (b<a.length)&&a.getD (a.length-1-b) false):=by
 induction a generalizing b with
 |nil=>simp[num]
 |cons e a f=>
  rw[LB,eF,Nat.testBit_two_pow_mul_add _ (tF a)];by_cases c:b<a.length
  .rw[ae c,f,fF c,cz,fF (by omega:b<a.length+1)];have d:a.length+1-1-b=(a.length-1-b)+1:=Z;rw[d];simp
  .rw[M c];by_cases g:b=a.length
   .subst g;cases e<;>simp
   .have d:b-a.length=(b-a.length-1)+1:=Z;rw[e7 aw,d];cases e<;>simp[LD]
theorem LF(b a:Nat)(c:a<b):(bitsOf v b).take (a+1)=(bitsOf v b).take a++[v.testBit (b-1-a)]:=by rw[tG (by simp[bitsOf];exact c)];simp[bitsOf]
theorem YA(a b:Nat)(f:b<=a):num ((bitsOf v a).take b)=v%2^a/2^(a-b):=by
 apply EF;intro c;rw[LC,Nat.testBit_div_two_pow,Nat.testBit_mod_two_pow];have e:((bitsOf v a).take b).length=b:=by simp[bitsOf];omega
 rw[e];by_cases d:c<b
 .rw[fF d,fF (by omega:c+(a-b)<a)];simp only[bitsOf,yR,b9];rw[tH Z,fx,qN Z];simp only[hU,lE];congr 1;omega
 .rw[e7 d,e7 (by omega:¬c+(a-b)<a)];simp
theorem LG(a:Nat):num (bitsOf v a)=v%2^a:=by have:=YA v a a (a' _);rw[ml (by simp[bitsOf])]at this;simpa using this
theorem YB(a:Nat)(b:v<2^a):num (bitsOf v a)=v:=by rw[LG,r0 b]
theorem EG(b:Nat):ff a b<256:=by have:=tF ((List.range 8).map λc=>a.getD (8*b+c) false);simpa[ff]using this
theorem wz(c b:Nat):(ff a c).testBit b=(decide (b<8)&&a.getD (8*c+(7-b)) false):=by
 unfold ff;rw[LC];simp only[ju,nP];by_cases d:b<8
 .rw[fF d,b9,fx,qN Z];simp
 .rw[e7 d];simp
theorem YC{b:Qah}(d:∀a,a<8->b.getD (8*i+a) false=l.getD (8*i+a) false):ff b i=ff l i:=by unfold ff;congr 1;apply oC;intro a c;exact d a (fq.1 c)
theorem YD{a:Qah}(d:8*i+8<=a.length):ff (a++l) i=ff a i:=YC λc b=>by simp only[b9];rw[eE Z]
theorem LH{a:Qah}(c:a.length<=8*i):ff a i=0:=by apply EF;intro b;rw[wz];simp only[Nat.zero_testBit,Bool.and_eq_false_imp,b9];intro _;rw[fN Z];rfl
theorem LI{a:Prop}(b:a:=by have d:b-(7-a.length%8)=(b-(7-a.length%8)-1)+1:=Z;rw[d];cases c<;>simp[LD]):a:=b
theorem YE(c:Bool):ff (a++[c]) (a.length/8)=ff a (a.length/8)|||(c.toNat<<<(7-a.length%8)):=by
 apply EF;intro b;rw[Nat.testBit_or,wz,wz,Nat.testBit_shiftLeft];simp only[b9];by_cases e:b<8
 .rw[fF e];by_cases g:8*(a.length/8)+(7-b)<a.length
  .rw[eE g];exact LI
  .rw[db Z,fN (by omega:a.length<=8*(a.length/8)+(7-b))];by_cases f:8*(a.length/8)+(7-b)=a.length
   .rw[f,lF,fF (by omega:b>=7-a.length%8)];have d:b-(7-a.length%8)=0:=Z;rw[d];cases c<;>simp
   .rw[fN aw,e7 (by omega:¬b>=7-a.length%8)];simp
 .rw[e7 e];simp only[Bool.false_and,tj];exact LI
theorem LJ(b:Bool):pack (a++[b])=((List.range (a.length/8+1)).map (ff a)).set (a.length/8) (ff (a++[b]) (a.length/8)):=by
 apply List.ext_getElem
 .simp[pack];omega
 .intro e h1 i;simp only[pack,List.getElem_map,List.getElem_range,List.getElem_set];split
  .rename_i h;rw[h]
  .have:e<a.length/8+1:=iB;exact YD Z
theorem EH(c:a.length%8=0):pack a++[0]=(List.range (a.length/8+1)).map (ff a):=by rw[mm,hf];have b:(a.length+7)/8=a.length/8:=Z;rw[pack,b];simp[LH (a:=a) (i:=a.length/8) Z]
theorem EI(c:a.length%8≠0):pack a=(List.range (a.length/8+1)).map (ff a):=by have b:(a.length+7)/8=a.length/8+1:=Z;rw[pack,b]
end fD
theorem YF(a:Int)(b:N)(d:0<=a)(e:a<=255):Calls prog 170 #[.int .u8 a] b λc f=>c=.returned (X (Lib.trailingZeros8 a.toNat))/\b=f:=by go_in;go_wp2;go_ret;refine y5 ?_;unfold wrap64;exact Lib.ntz8_int a d e
theorem LK:∀a:Fin 256,a.val≠0->a.val/2^Lib.trailingZeros8 a.val%2=1/\a.val%2^Lib.trailingZeros8 a.val=0/\Lib.trailingZeros8 a.val<8:=bm
theorem YG(a:Int)(d:N)(e:0<=a)(k:a<=65535):Calls prog 109 #[.int .u64 a] d λc i=>c=.returned (X (Lib.bitLen a.toNat))/\d=i:=by
 by_cases j:256<=a
 .have b:a/256<=255:=Z;have g:0<=a/256:=Z;go_in;go_wp2;go_ret;refine y5 ?_;rw[Lib.len8_of (a/256) g b];have c:(a/256).toNat=a.toNat/256:=Z;have f:=Lib.bitLen_le8' (a/256) g b;have l:=Lib.bitLen_shift8 a.toNat Z Z;rw[c]at f⊢;unfold wrap64;omega
 .have b:a<=255:=Z;go_in;go_wp2;go_ret;refine y5 ?_;rw[Lib.len8_of a e b];have f:=Lib.bitLen_le8' a e b;unfold wrap64;omega
theorem YH(a:Int)(b:N)(e:0<=a)(f:a<=65535):Calls prog 64 #[.int .u64 a] b λc d=>c=.returned (X (Lib.bitLen a.toNat))/\b=d:=by
 go_in;go_wp2_with(go_at_call 109;refine(YG _ _ e f).mono ?_;rintro c d ⟨rfl,rfl⟩)
 go_ret;exact⟨rfl,rfl⟩
theorem bitLen_spec:∀(a:Nat),a≠0->a<2^64->∃b,Lib.bitLen a=b+1/\2^b<=a/\a<2^(b+1):=by
 intro a;induction a using Nat.strongRecOn with
 |_ a c=>
  intro d e;rw[Lib.bitLen_half a d e];by_cases p:a/2=0
  .refine⟨0,tI,Z,Z⟩
  .obtain⟨b,g,h,f⟩:=c (a/2) Z p Z;refine⟨b+1,Z,?_,?_⟩
   .rw[tE];omega
   .rw[tE];omega
theorem YI(b:Nat)(e:b≠0)(g:b<65536):∃a,Lib.bitLen b=a+1/\2^a<=b/\b<2^(a+1)/\a<16:=by obtain⟨a,d,f,c⟩:=bitLen_spec b e Z;refine⟨a,d,f,c,?_⟩;have:(2:Nat)^a<2^16:=Z;exact(Nat.pow_lt_pow_iff_right Z).1 this
namespace fD
def kA(b:af)(a:Nat):Bool:=(b.getD (a/8) 0).testBit (7-a%8)
def dK(b:af)(a:Nat):Qah:=(List.range a).map (kA b)
theorem wA(b:af)(a:Nat):(dK b a).length=a:=by simp[dK]
theorem Az(c:af)(b a:Nat)(d:a<b):(dK c b)[a]? =some (kA c a):=by simp[dK,d]
def jv(b:Qah)(at_ a:Nat):Qah:=(b.drop at_).take a
theorem LL(at_ b:Nat)(c:Bool)(d:a[at_+b]? =some c):jv a at_ (b+1)=jv a at_ b++[c]:=by unfold jv;rw[AA,pf,d];rfl
theorem LM(at_ b:Nat)(c:at_+b<=a.length):(jv a at_ b).length=b:=by simp[jv];omega
theorem LN(b:Nat):(pack a).getD b 0=ff a b:=by
 unfold pack;rw[b9,fx];by_cases c:b<(a.length+7)/8
 .rw[qN c];rfl
 .rw[fN aw];rw[LH Z];rfl
theorem YJ(b:Nat):kA (pack a) b=a.getD b false:=by unfold kA;rw[LN,wz];have c:8*(b/8)+(7-(7-b%8))=b:=Z;rw[fF Z,c];rfl
theorem YK(b:Nat)(e:b<=a.length):dK (pack a) b=a.take b:=by
 apply oM;intro d;by_cases c:d<b
 .rw[Az _ _ _ c,YJ,tH c,b9,cu Z];rfl
 .rw[fN EJ,fN aw]
theorem YL:dK (bh a) a.length=a:=by unfold bh;rw[YK _ _ U];simp
theorem tJ:∀b∈bh a,b<256:=by intro b c;simp only[bh,pack,ca]at c;obtain⟨d,_,rfl⟩:=c;exact EG _ _
end fD
namespace fD
def fG(v:Nat):Nat:=(v+1).log2
def code(v:Nat):Qah:=List.replicate (fG v) false++bitsOf (v+1) (fG v+1)
def dk(a:Qah):Nat:=(a.takeWhile λb=> !b).length
def eu(a:Qah):Int:=if 16<=dk a then 3 else if a.length<2*dk a+1 then 4 else 0
def eg(a:Qah):Nat:=if eu a=0 then 2^dk a+num ((a.drop (dk a+1)).take (dk a))-1 else 0
def dg(a:Qah):Nat:=if eu a=0 then 2*dk a+1 else 0
def pw(a:Nat):Int:=if a%2=1 then((a:Int)+1)/2 else -((a:Int)/2)
def fold(v:Int):Nat:=if 0<v then(2*v-1).toNat else(-2*v).toNat
theorem wB:2^fG v<=v+1/\v+1<2^(fG v+1):=(Nat.log2_eq_iff Z).1 rfl
theorem YM{v:Nat}(c:2^b<=v+1)(a:v+1<2^(b+1)):fG v=b:=(Nat.log2_eq_iff Z).2 ⟨c,a⟩
theorem AB{v:Nat}(a:v<=65534):fG v<=15:=by have b:=wB v;have:2^fG v<2^16:=Z;have:=(Nat.pow_lt_pow_iff_right (by omega:1<2)).1 this;omega
theorem AD:(code v).length=2*fG v+1:=by simp[code,kh];omega
theorem YN(a:Nat):bitsOf 0 a=List.replicate a false:=by
 apply List.ext_getElem
 .simp[bitsOf]
 .intro e h1 b;simp[bitsOf]
theorem YO(b a:Nat):bitsOf b (a+1)=b.testBit a::bitsOf b a:=by unfold bitsOf;rw[List.range_succ_eq_map,cj,AE];simp only[EK,Nat.sub_zero,wC,true_and];apply oC;intro c _;simp only[Function.comp];congr 1;omega
theorem YP{a:Nat}(e:2^b<=a)(d:a<2^(b+1)):a.testBit b=true:=by
 rw[AF];have c:a/2^b=1:=by
  apply Nat.le_antisymm
  .have:a/2^b<2:=by rw[Nat.div_lt_iff_lt_mul (wD b)];rw[tE]at d;omega
   omega
  .exact(Nat.le_div_iff_mul_le (wD b)).2 Z
 rw[c];rfl
theorem LO:code v=List.replicate (fG v) false++true::bitsOf (v+1) (fG v):=by unfold code;rw[YO,YP (wB v).1 (wB v).2]
theorem YQ(a:Nat)(b:Qah):dk (List.replicate a false++true::b)=a:=by
 unfold dk;induction a with
 |zero=>simp
 |succ a c=>rw[r4,dZ,List.takeWhile_cons];simp
theorem EL(a:Qah):dk (code v++a)=fG v:=by rw[LO,b5,dZ];exact YQ _ _
theorem wE{v:Nat}(a:v<=65534)(b:Qah):eu (code v++b)=0:=by unfold eu;have:=AB a;rw[EL,M Z,M (by simp[AD])]
theorem EM{v:Nat}(b:v<=65534)(a:Qah):eg (code v++a)=v:=by
 unfold eg;rw[ae (wE b a),EL];have d:((code v++a).drop (fG v+1)).take (fG v)=bitsOf (v+1) (fG v):=by rw[LO];have c:List.replicate (fG v) false++true::bitsOf (v+1) (fG v)++a=(List.replicate (fG v) false++[true])++(bitsOf (v+1) (fG v)++a):=U;rw[c];have g:(List.replicate (fG v) false++[true]).length=fG v+1:=U;rw[<-g,wF];have:=tK (l₁:=bitsOf (v+1) (fG v)) (l₂:=a);rwa[kh]at this
 rw[d,LG];obtain⟨e,f⟩:=wB v;have h:(v+1)%2^fG v=v+1-2^fG v:=by rw[Nat.mod_eq_sub_mod e,r0 (by rw[tE]at f;omega)]
 omega
theorem EN{v:Nat}(b:v<=65534)(a:Qah):dg (code v++a)=(code v).length:=by unfold dg;rw[ae (wE b a),EL,AD]
theorem wG{v:Int}(b:-32767<=v)(a:v<=32767):fold v<=65534:=by unfold fold;split<;>omega
theorem LP(v:Int):pw (fold v)=v:=by unfold pw fold;split<;>split<;>omega
theorem YR(a:Qah):dk a<=a.length:=(List.takeWhile_prefix _).length_le
theorem LQ:∀(a:Qah)(b:Nat),b<dk a->a[b]? =some false
 |[],b,c=>by simp[dk]at c
 |true::a,b,c=>by simp[dk]at c
 |false::a,0,_=>U
 |false::a,b+1,c=>by
  have:b<dk a:=by simp[dk]at c⊢;exact c
  simpa using LQ a b this
theorem LR:∀(a:Qah),dk a<a.length->a[dk a]? =some true
 |[],e=>r5
 |true::a,_=>by simp[dk]
 |false::a,e=>by
  have b:dk (false::a)=dk a+1:=by simp[dk]
  rw[b]at e⊢;simpa using LR a kf
end fD
def nth:List Oper->Nat->Option Oper
 |[],_=>none
 |c::_,0=>some c
 |_::a,b+1=>nth a b
def mn(a:Int):Qas:=.iface 367 (.agg #[X a])
theorem LS(a:N)(b:Int):Calls prog 276 #[X b,X 0] a λd c=>d=.returned (X b)/\a=c:=by go_in;exact AG
theorem LU(b:N)(d a:Int)(f:(a !=0)=true):Calls prog 276 #[X d,X a] b λc e=>c=.panicked [{v:=mn a,recovered:=false}]/\b=e:=by
 go_in;go_wp2_with fail
 exact⟨rfl,rfl,rfl⟩
def aR(b a:Int):Int:=if b<0 then -((2*(-b)+a)/(2*a))else(2*b+a)/(2*a)
theorem LV(b a:Int)(j:0<a):(2*b+a)/(2*a)=b/a+if a-b%a<=b%a then 1 else 0:=by
 have e:=AH b a;have h:=AI b (show a≠0 from Z);have f:=AJ b j;generalize b/a=d at e;generalize b%a=c at e h f;have g:2*b+a=(2*c+a)+2*a*d:=by
  have:2*a*d=2*(a*d):=by rw[qO]
  rw[this];omega
 rw[g,Int.add_mul_ediv_left _ _ Z];split
 .have i:2*c+a=(2*c-a)+2*a*1:=Z;rw[i,Int.add_mul_ediv_left _ _ Z,EO Z Z];omega
 .rw[EO Z Z];omega
theorem YS{a:Int}(c:0<=a)(b:0<d):aR a d=a/d+if d-a%d<=a%d then 1 else 0:=by unfold aR;rw[M Z,LV a d b]
theorem YT(b:0<c)(a:0<d):aR (-c) d=-(c/d+if d-c%d<=c%d then 1 else 0):=by unfold aR;rw[ae Z,Int.neg_neg,LV c d a]
theorem EP(a:0<=c)(b:0<d):0<=c/d/\c/d<=c:=⟨Int.ediv_nonneg a Z,Int.ediv_le_self _ a⟩
theorem EQ(b:Int){a:Int}(c:0<a):0<=b%a/\b%a<a:=⟨AI b Z,AJ b c⟩
theorem LW(e:0<=c)(a:160<=d):c/d<=c/160:=by have f:=AH c d;have h:=EQ c (a:=d) Z;have b:=EP (c:=c) (d:=d) e Z;have g:160*(c/d)<=d*(c/d):=ty a b.1;exact Int.le_ediv_of_mul_le Z Z
def bM:Nat->List Nat->List Nat
 |_,[]=>[]
 |c,a::b=>if c=2/\a<4 then 3::a::bM (if a=0 then 1 else 0) b else a::bM (if a=0 then c+1 else 0) b
def nQ(b:af)(a:Nat):Prop:=b[a]? =some 0/\b[a+1]? =some 0/\b[a+2]? =some 1/\∃c,b[a+3]? =some c/\c≠0
def AK:Nat->List Nat->Prop
 |_,[]=>True
 |c,a::b=>(c=2->3<=a)/\AK (if a=0 then c+1 else 0) b
theorem wH:∀(f:af)(a:Nat),a<=2->AK a (bM a f)
 |[],_,_=>trivial
 |d::c,a,g=>by
  unfold bM;split
  .rename_i e;refine⟨λ_=>a' _,?_⟩;simp only[show¬(3=0)from R,k2];refine⟨λe=>Z,?_⟩;by_cases b:d=0
   .simp only[b,eB];exact wH c 1 Z
   .simp only[b,k2];exact wH c 0 Z
  .rename_i e;refine⟨λh=>Z,?_⟩;by_cases b:d=0
   .simp only[b,eB];have:a≠2:=Z;exact wH c (a+1) Z
   .simp only[b,k2];exact wH c 0 Z
theorem ER:∀(k:af)(a d:Nat),a<=2->AK a k->k[d]? =some 0->k[d+1]? =some 0->∀c,k[d+2]? =some c->3<=c
 |[],_,_,_,_,e,_,_,_=>r5
 |m::b,a,d+1,p,e,j,g,c,i=>by
  by_cases o:m=0
  .have q:a≠2:=λf=>by have:=e.1 f;omega
   have h:=e.2;rw[ae o]at h;exact ER b (a+1) d Z h (by simpa using j) iD c iB
  .have h:=e.2;rw[M o]at h;exact ER b 0 d Z h (by simpa using j) iD c iB
 |m::b,a,0,p,e,j,g,c,i=>by
  simp at j g i;subst j;cases b with
  |nil=>simp at g
  |cons u b=>
   simp at g;subst g;cases b with
   |nil=>simp at i
   |cons s b=>
    simp at i;subst i;have l:=e.2;simp only[eB]at l;have n:=l.2;simp only[eB]at n;have r:a≠2:=λf=>by have:=e.1 f;omega
    have t:a+1≠2:=λf=>by have:=l.1 f;omega
    exact n.1 Z
theorem AL:∀(g:af)(d:Nat),(∀a∈g,a<256)->∀a∈bM d g,a<256
 |[],_,_,a,i=>l'
 |h::b,d,e,a,i=>by
  unfold bM at i;have f:∀a∈b,a<256:=λa i=>e a (hQ _ i);have c:=e h (hd ..);split at i
  .rcases bu.1 i with rfl|i
   .decide
   .rcases bu.1 i with rfl|i
    .exact c
    .exact AL b _ f a i
  .rcases bu.1 i with rfl|i
   .exact c
   .exact AL b _ f a i
theorem ES:∀(d:af)(c a:Nat),d≠[]->(bM c d).getLastD a=d.getLastD a
 |[],_,_,b=>absurd rfl b
 |[g],c,a,_=>by unfold bM;split<;>simp[bM]
 |g::i::f,c,a,_=>by
  unfold bM;have b:=λe h=>ES (i::f) e h U;split
  .rw[px,px,b,px,px,px]
  .rw[px,b,px,px,px]
theorem qP:∀(d:af)(a:Nat),(bM a d).length<=2*d.length
 |[],_=>by simp[bM]
 |b::c,a=>by
  unfold bM;split
  .have:=qP c (if b=0 then 1 else 0);simp;omega
  .have:=qP c (if b=0 then a+1 else 0);simp;omega
theorem ET{a:af}{b:Nat}:bM b a=[]↔a=[]:=by
 cases a with
 |nil=>simp[bM]
 |cons c d=>unfold bM;split<;>simp
theorem YU{a:af}{k:af}(j:a=[]\/a.getLastD 0≠0)(m:AK 0 a)(t:e<a.length+f)(r:k=[]\/∃l g,k=0::0::1::l::g):¬nQ (a++List.replicate f 0++k) e:=by
 rintro⟨i,d,c,l,q,u⟩;by_cases s:e+2<a.length
 .rw[b5,eE Z]at i d c;have:=ER a 0 e Z m i d 1 c;omega
 .by_cases p:e<a.length
  .have o:a≠[]:=by intro h;subst h;simp at p
   have j:=j.resolve_left o;have h:a.getLastD 0=a[a.length-1]'Z:=by rw[r6,r7,cu Z];rfl
   rw[h]at j;rcases(show e=a.length-1\/e+1=a.length-1 from Z)with g|g
   .rw[b5,eE Z,cu Z]at i;simp only[iA]at i;simp only[g]at i;exact j i
   .rw[b5,eE Z,cu Z]at d;simp only[iA]at d;simp only[g]at d;exact j d
  .obtain⟨b,rfl⟩:∃b,e=a.length+b:=⟨e-a.length,Z⟩;rw[b5,show a.length+b+2=a.length+(b+2)from Z,db Z,show a.length+(b+2)-a.length=b+2 from Z]at c;rw[b5,show a.length+b+3=a.length+(b+3)from Z,db Z,show a.length+(b+3)-a.length=b+3 from Z]at q;by_cases n:b+2<f
   .rw[eE aw,wx,ae n]at c;simp at c
   .rw[db aw,hy]at c;rcases r with rfl|⟨l,g,rfl⟩
    .simp at c
    .rcases(show b+2-f=0\/b+2-f=1 from Z)with h|h<;>rw[h]at c<;>simp at c
theorem YV{a:af}{b:Nat}{d:af}(c:b≠0):nQ (a++0::0::1::b::d) a.length:=by
 refine⟨?_,?_,?_,b,?_,c⟩<;>rw[db Z]
 .simp
 .rw[show a.length+1-a.length=1 from Z];rfl
 .rw[show a.length+2-a.length=2 from Z];rfl
 .rw[show a.length+3-a.length=3 from Z];rfl
def hz:Nat->List Nat->Nat
 |c,[]=>c
 |c,a::b=>hz (if c=2/\a<4 then(if a=0 then 1 else 0)else if a=0 then c+1 else 0) b
theorem AM:∀(c a:af)(b:Nat),bM b (c++a)=bM b c++bM (hz b c) a
 |[],_,_=>rfl
 |e::d,a,b=>by
  rw[dZ,bM,bM,hz];split
  .rw[AM d a];rfl
  .rw[AM d a];rfl
theorem LX:∀(d a:af)(c:Nat),hz c (d++a)=hz (hz c d) a
 |[],_,_=>rfl
 |e::b,a,c=>by rw[dZ];show hz _ (b++a)=hz (hz _ b) a;exact LX b a _
theorem EU:∀(d:af)(a:Nat),a<=2->hz a d<=2
 |[],_,c=>c
 |g::b,a,c=>by
  show hz _ b<=2;refine EU b _ ?_;split
  .split<;>omega
  .split
   .rename_i h1 f;subst f;have:a≠2:=λe=>h1 ⟨e,Z⟩;omega
   .omega
theorem LY{a:af}(c:b<a.length):bM 0 (a.take (b+1))=bM 0 (a.take b)++(if hz 0 (a.take b)=2/\a[b]<4 then[3,a[b]]else[a[b]]):=by rw[tG c,AM];congr 1
theorem LZ{a:af}(c:b<a.length):hz 0 (a.take (b+1))=if hz 0 (a.take b)=2/\a[b]<4 then(if a[b]=0 then 1 else 0)else if a[b]=0 then hz 0 (a.take b)+1 else 0:=by rw[tG c,LX];rfl
theorem L0{a:af}(b:Nat):bM 0 a=bM 0 (a.take b)++bM (hz 0 (a.take b)) (a.drop b):=by rw[<-AM,AN]
def gu(a:Nat×List Nat):af:=0::0::1::a.1::bM 0 a.2
def cg:List ((Nat×List Nat)×Nat)->List Nat
 |[]=>[]
 |(g,f)::a=>gu g++List.replicate f 0++cg a
theorem wI:∀b a,cg (b++a)=cg b++cg a
 |[],_=>rfl
 |(g,f)::c,a=>by rw[dZ,cg,cg,wI c a];simp only[b5]
theorem L1{a c:af}:nQ (a++c) (a.length+e)↔nQ c e:=by
 have b:∀d,(a++c)[a.length+e+d]? =c[e+d]? :=λd=>by rw[db Z];congr 1;omega
 unfold nQ;rw[show a.length+e=a.length+e+0 from rfl,b 0,b 1,b 2,b 3];rfl
theorem EV:∀a:List ((Nat×List Nat)×Nat),4*a.length<=(cg a).length
 |[]=>by simp[cg]
 |(g,f)::b=>by have:=EV b;simp only[cg,gu,aZ,cz,hy];omega
structure jP(a:Nat×List Nat):Prop where
 pos:0<a.1
 le:a.1<256
 tL:∀b∈a.2,b<256
 end_:a.2=[]\/a.2.getLastD 0≠0
 oN:a.2.length<=1073741824
theorem L2:∀{e:List ((Nat×List Nat)×Nat)},(∀b∈e,jP b.1)->∀b∈cg e,b<256
 |[],_,b,a=>by simp[cg]at a
 |(g,f)::j,d,b,a=>by
  have c:=d (g,f) U;simp only[cg,gu,bc,bu,List.mem_replicate]at a;rcases a with((rfl|rfl|rfl|rfl|a)|⟨_,rfl⟩)|a
  .omega
  .omega
  .omega
  .exact c.le
  .exact AL _ _ c.tL b a
  .omega
  .exact L2 (λh i=>d h (by simp[i])) b a
def cM(b:List ((Nat×List Nat)×Nat))(a:Nat):Nat:=(cg (b.take a)).length
theorem tM{a:List ((Nat×List Nat)×Nat)}(e:a[b]? =some (g,f)):cg a=cg (a.take b)++(gu g++List.replicate f 0++cg (a.drop (b+1)))/\cM a (b+1)=cM a b+(4+(bM 0 g.2).length+f):=by
 obtain⟨d,c⟩:=e8.1 e;constructor
 .rw[<-show cg ((g,f)::a.drop (b+1))=gu g++List.replicate f 0++cg (a.drop (b+1))from rfl,<-c,<-tN d,<-wI,AN]
 .unfold cM;rw[tG d,wI,c,aZ];simp only[cg,gu,eG,aZ,cz,hy];omega
theorem wJ{a:List ((Nat×List Nat)×Nat)}:cM a b<=(cg a).length:=by
 conv=>rhs;rw[<-AN b a,wI,aZ]
 exact Nat.le_add_right _ _
theorem YW{a:List ((Nat×List Nat)×Nat)}:cM a a.length=(cg a).length:=by unfold cM;rw[wK]
theorem tO{a:List ((Nat×List Nat)×Nat)}(p:∀k∈a,jP k.1){b:Nat}{c:Nat×List Nat}{l:Nat}(o:a[b]? =some (c,l)):(∀d,cM a b+4<=d->d<cM a (b+1)->¬nQ (cg a) d)/\(nQ (cg a) (cM a (b+1))\/cM a (b+1)=(cg a).length)/\(∀d,cM a b+4+(bM 0 c.2).length<=d->d<cM a (b+1)->(cg a)[d]? =some 0)/\(cM a b+4+(bM 0 c.2).length=cM a b+4\/∃g k,cM a b+4+(bM 0 c.2).length=g+1/\(cg a)[g]? =some k/\k≠0)/\(cg a)[cM a b+3]? =some c.1/\((cg a).drop (cM a b+4)).take (bM 0 c.2).length=bM 0 c.2:=by
 obtain⟨f,s⟩:=tM o;have z:jP c:=p (c,l) (bS o);have t:cg (a.drop (b+1))=[]\/∃h e,h≠0/\cg (a.drop (b+1))=0::0::1::h::e:=by
  cases ak:a.drop (b+1)with
  |nil=>exact .inl rfl
  |cons k y=>obtain⟨v,e⟩:=k;have:=p (v,e) (py (i:=b+1) (by rw[ak];simp));exact .inr ⟨v.1,bM 0 v.2++List.replicate e 0++cg y,Nat.pos_iff_ne_zero.1 this.pos,by simp[cg,gu]⟩
 have w:cg (a.drop (b+1))=[]\/∃h e,cg (a.drop (b+1))=0::0::1::h::e:=t.imp id λ⟨h,e,_,f⟩=>⟨h,e,f⟩;have r:bM 0 c.2=[]\/(bM 0 c.2).getLastD 0≠0:=by
  rcases z.end_ with f|f
  .exact .inl (by rw[f];rfl)
  .by_cases i:c.2=[]
   .exact .inl (by rw[i];rfl)
   .exact .inr (by rw[ES _ _ _ i];exact f)
 have m:cg a=(cg (a.take b)++[0,0,1,c.1])++(bM 0 c.2++List.replicate l 0++cg (a.drop (b+1))):=by rw[f];simp[gu,b5]
 have j:(cg (a.take b)++[0,0,1,c.1]).length=cM a b+4:=by simp[cM]
 refine⟨λd x n=>?_,?_,λd x n=>?_,?_,?_,?_⟩
 .obtain⟨g,rfl⟩:∃g,d=(cg (a.take b)++[0,0,1,c.1]).length+g:=⟨d-(cM a b+4),by rw[j];omega⟩;rw[m,L1];exact YU r (wH _ _ Z) (by rw[j]at n;omega) w
 .rcases t with e|⟨h,e,A,u⟩
  .right;rw[f,aZ,aZ,aZ,e,s];simp[gu,cM];omega
  .left;rw[f,u,show cM a (b+1)=(cg (a.take b)).length+(gu c++List.replicate l 0).length by rw[s];simp[gu,cM];omega,L1];exact YV A
 .obtain⟨g,rfl⟩:∃g,d=(cg (a.take b)++[0,0,1,c.1]).length+((bM 0 c.2).length+g):=⟨d-(cM a b+4+(bM 0 c.2).length),by rw[j];omega⟩;rw[m,db Z,ki,b5,db Z,ki];have q:g<l:=by rw[j]at n;omega
  rw[eE (by simpa using q),wx,ae q]
 .by_cases i:bM 0 c.2=[]
  .left;rw[i];rfl
  .right;have B:0<(bM 0 c.2).length:=tP.2 i;refine⟨cM a b+4+((bM 0 c.2).length-1),_,Z,?_,r.resolve_left i⟩;rw[m,<-j,db Z,ki,b5,eE Z,r6,r7,cu Z];rfl
 .rw[f,show cM a b+3=(cg (a.take b)).length+3 from rfl,db Z,ki];rfl
 .rw[m,<-j,wF,b5,tK]
section
open Go.ChangeAt Go.ChangeShapes Go.Deep Go.WideShapes
theorem own:ownKnob prog.godebug=none:=ar
theorem ak0:laidOutB prog=true:=ar
section
variable {j:Type}{m:TypeId×Value->j}{h:Qav}
theorem L3(p:laidOutB h=true){b o:N}(q:Below b.heap.size b o):∀(a:List TypeId)(aL:Qam)(e:List (DataW j))(d:List MemPlace),(a.all λk=>h.readableRec k&&decide (k<h.types.size))=true->DataW.TrodAll m h b 0 (λ_=>true) true a aL e d->(∀c∈d,c.block<b.heap.size)->DataW.TrodAll m h o 0 (λx=>decide (x<b.heap.size)) true a aL e d
 |[],aL,e,d,_,g,_=>by
  cases aL<;>cases e<;>simp[DataW.TrodAll]at g⊢
  exact g
 |k::a,aL,e,d,i,g,n=>by obtain⟨v,r,y,s,f,u,rfl,rfl,rfl,t,w⟩:=trodAll_cons g;simp only[yQ,dB,mX]at i;exact trodAll_cons_mk (Below.trod p i.1.1 i.1.2 t q (λc l=>n c pv)) (L3 p q a r s u (by simpa using i.2) w (λc l=>n c pv))
theorem YX{e:Func}{c:ChangeSpec}{g D:Bool}{args:Qad}{b d:List (DataW j)}{p:List MemPlace}{o:Qat} (f:DataW.Whole m h e.params.toList c.vars g k args.toList b d p) (x:laidOutB h=true) (H:(e.params.toList.all λq=>h.readableRec q&&decide (q<h.types.size))=true) (z:c.vars=[]) (y:(c.fn j (b++d)).results=[.lit (.bool true)]/\(c.fn j (b++d)).args=b/\(c.fn j (b++d)).vars=[]) (I:e.resultTypes=#[o]) (E:h.underlying o=some .bool) (r:Below k.heap.size k n):c.post m h e g true D false k args (.bool true) n:=by
 have s:∀a∈p,a.block<k.heap.size:=λa C=>f.lt a C;have t:=f;obtain⟨a,w,G,J,rfl,_,_⟩:=f;obtain⟨u,A,F⟩:=y;refine⟨b,d,a++w,[],a,[],t,?_,?_,?_,r.frame _,λi=>l'⟩
 .rw[u,I];exact trodAll_cons_mk (shut_bool E true) trodAll_mk0
 .rw[A];exact L3 x r _ _ _ _ H G (λB l=>s B pv)
 .rw[F,z];rfl
theorem L4{α:Type}{i:Nat->α->Prop}:∀(e:Nat),(∀a,a<e->∃c,i a c)->∃d:List α,d.length=e/\∀a c,d[a]? =some c->i a c
 |0,_=>⟨[],rfl,U⟩
 |e+1,f=>by
  obtain⟨d,h,k⟩:=L4 e (λa g=>f a Z);obtain⟨c,m⟩:=f e Z;refine⟨d++[c],by simp[h],λa l b=>?_⟩;by_cases g:a<d.length
  .rw[eE g]at b;exact k a l b
  .rw[db Z]at b;have j:a=d.length:=by
    rcases AO (Nat.le_of_not_lt g)with f|f
    .exact f.symm
    .rw[fN aw]at b;cases b
   subst j;simp at b;subst b;rw[h];exact m
end
end
