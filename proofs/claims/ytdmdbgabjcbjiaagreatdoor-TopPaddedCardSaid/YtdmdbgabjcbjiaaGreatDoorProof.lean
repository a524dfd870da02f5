/- Proved: TopPadded returns true for all its arguments, which read afterwards as before, where the two package variables hold what the program's text lays; and the card that ties them to it. No other condition. -/
import Derived.Test.YtdmdbgabjcbjiaaGreatDoorA22
import Derived.Deep.DeepHandedRow
import Derived.Lib.LaidTab
import Derived.Shelf.SlSortCmp.NoneTotal
import Derived.Shelf.SlicesG.Cmp
import Derived.Test.YtdmdbgabjcbjiaaGreatDoorCards
import Derived.Test.YtdmdbgabjcbjiaaGreatDoorTie
/- TopPadded: stuffing that the buffer model asks for can be written and changes nothing of what is displayed. Conditions: the tied card (both tables laid). -/
set_option maxHeartbeats 0
set_option maxRecDepth 100000
set_option linter.all false
namespace Go.Proofs.YtdmdbgabjcbjiaaGreatDoor
open Go.RowKit fD cr hs a7 _root_.Go.Proofs.Tryz
variable{a b:Nat}{d:Qad}{c:N}{e:Type}
section
open Go.Shelf Go.Sort
def ajY:Go.Shelf.Ren:=⟨λ|6=>207|15=>64|14=>241|28=>108|29=>109|20=>268|21=>269|22=>270|23=>271|24=>272|25=>273|26=>274|27=>275|46=>287|47=>144|48=>145|49=>288|50=>289|57=>294|a=>a,λ|22=>28|24=>3|25=>104|3=>3|39=>149|0=>0|53=>182|55=>205|4=>4|46=>197|45=>196|50=>201|5=>5|9=>9|66=>261|70=>265|76=>297|77=>298|a=>a,λa=>a⟩
theorem ajZ:SlLaysF.n6 Tryz.prog ajY where
 mixed:=ar
 f6:=⟨ "slices.SortFunc[[]int,int]",R,Tryz.func207.trans (aX some ar)⟩
 f14:=⟨ "slices.pdqsortCmpFunc[int]",R,Tryz.func241.trans (aX some ar)⟩
 f15:=Tryz.func64.trans (aX some ar)
 f20:=⟨ "slices.insertionSortCmpFunc[int]",R,Tryz.func268.trans (aX some ar)⟩
 f21:=⟨ "slices.heapSortCmpFunc[int]",R,Tryz.func269.trans (aX some ar)⟩
 f22:=⟨ "slices.breakPatternsCmpFunc[int]",R,Tryz.func270.trans (aX some ar)⟩
 f23:=⟨ "slices.choosePivotCmpFunc[int]",R,Tryz.func271.trans (aX some ar)⟩
 f24:=⟨ "slices.reverseRangeCmpFunc[int]",R,Tryz.func272.trans (aX some ar)⟩
 f25:=⟨ "slices.partialInsertionSortCmpFunc[int]",R,Tryz.func273.trans (aX some ar)⟩
 f26:=⟨ "slices.partitionEqualCmpFunc[int]",R,Tryz.func274.trans (aX some ar)⟩
 f27:=⟨ "slices.partitionCmpFunc[int]",R,Tryz.func275.trans (aX some ar)⟩
 f28:=Tryz.func108.trans (aX some ar)
 f29:=Tryz.func109.trans (aX some ar)
 f46:=⟨ "slices.siftDownCmpFunc[int]",R,Tryz.func287.trans (aX some ar)⟩
 f47:=Tryz.func144.trans (aX some ar)
 f48:=Tryz.func145.trans (aX some ar)
 f49:=⟨ "slices.medianAdjacentCmpFunc[int]",R,Tryz.func288.trans (aX some ar)⟩
 f50:=⟨ "slices.medianCmpFunc[int]",R,Tryz.func289.trans (aX some ar)⟩
 f57:=⟨ "slices.order2CmpFunc[int]",R,Tryz.func294.trans (aX some ar)⟩
 t0:=Tryz.underlying0
 a0:=Tryz.isAgg0
 z0:=Tryz.sizeOf0
 v0:=Tryz.zeroValue0
 t3:=Tryz.underlying3
 a3:=Tryz.isAgg3
 z3:=Tryz.sizeOf3
 v3:=Tryz.zeroValue3
 t4:=Tryz.underlying4
 a4:=Tryz.isAgg4
 z4:=Tryz.sizeOf4
 v4:=Tryz.zeroValue4
 t5:=Tryz.underlying5
 a5:=Tryz.isAgg5
 z5:=Tryz.sizeOf5
 v5:=Tryz.zeroValue5
 t9:=Tryz.underlying9
 a9:=Tryz.isAgg9
 z9:=Tryz.sizeOf9
 v9:=Tryz.zeroValue9
 t22:=Tryz.underlying28
 a22:=Tryz.isAgg28
 z22:=Tryz.sizeOf28
 v22:=Tryz.zeroValue28
 a24:=Tryz.isAgg3
 z24:=Tryz.sizeOf3
 t25:=Tryz.underlying104
 a25:=Tryz.isAgg104
 z25:=Tryz.sizeOf104
 v25:=Tryz.zeroValue104
 t39:=Tryz.underlying149
 a39:=Tryz.isAgg149
 z39:=Tryz.sizeOf149
 v39:=Tryz.zeroValue149
 t45:=Tryz.underlying196
 a45:=Tryz.isAgg196
 z45:=Tryz.sizeOf196
 v45:=Tryz.zeroValue196
 t46:=Tryz.underlying197
 a46:=Tryz.isAgg197
 z46:=Tryz.sizeOf197
 v46:=Tryz.zeroValue197
 t50:=Tryz.underlying201
 a50:=Tryz.isAgg201
 z50:=Tryz.sizeOf201
 v50:=Tryz.zeroValue201
 t53:=Tryz.underlying182
 a53:=Tryz.isAgg182
 z53:=Tryz.sizeOf182
 v53:=Tryz.zeroValue182
 t55:=Tryz.underlying205
 a55:=Tryz.isAgg205
 z55:=Tryz.sizeOf205
 v55:=Tryz.zeroValue205
 t66:=Tryz.underlying261
 a66:=Tryz.isAgg261
 z66:=Tryz.sizeOf261
 v66:=Tryz.zeroValue261
 t70:=Tryz.underlying265
 a70:=Tryz.isAgg265
 z70:=Tryz.sizeOf265
 v70:=Tryz.zeroValue265
 t76:=Tryz.underlying297
 a76:=Tryz.isAgg297
 z76:=Tryz.sizeOf297
 v76:=Tryz.zeroValue297
 t77:=Tryz.underlying298
 a77:=Tryz.isAgg298
 z77:=Tryz.sizeOf298
 v77:=Tryz.zeroValue298
def aj0:Go.Shelf.Ren:=⟨λ|5=>32|7=>65|a=>a,λ|22=>3|3=>3|4=>4|a=>a,λa=>a⟩
theorem Wv:SlLaysC2.n5 Tryz.prog aj0 where
 mixed:=ar
 f5:=⟨ "cmp.Compare[int]",R,Tryz.func32.trans (aX some ar)⟩
 f7:=⟨ "cmp.isNaN[int]",R,Tryz.func65.trans (aX some ar)⟩
 t3:=Tryz.underlying3
 a3:=Tryz.isAgg3
 z3:=Tryz.sizeOf3
 v3:=Tryz.zeroValue3
 t4:=Tryz.underlying4
 a4:=Tryz.isAgg4
 z4:=Tryz.sizeOf4
 v4:=Tryz.zeroValue4
 t22:=Tryz.underlying3
 a22:=Tryz.isAgg3
 z22:=Tryz.sizeOf3
 v22:=Tryz.zeroValue3
def qo(a:Nat)(b:Fin 8):Int:=if b.val<bw a then((7*(cI a+b.val)+a:Nat):Int)else((8*(cI a+b.val):Nat):Int)
def ow(b:Nat)(a:Fin 8):Qas:=.int .i64 (qo b a)
def lo(a:Nat)(b c:Fin 8):Int:=if a%2=0 then Lib.compareInt ((cI a+c.val:Nat):Int) ((cI a+b.val:Nat):Int)else Lib.compareInt ((cI a+b.val:Nat):Int) ((cI a+c.val:Nat):Int)
theorem rB(e:Nat)(a b:Fin 8):ltOf (lo e) a b=if e%2=0 then decide (b<a)else decide (a<b):=by
 unfold ltOf lo Lib.compareInt;have f:=a.isLt;have g:=b.isLt;simp only[Fin.lt_def];by_cases d:e%2=0
 .rw[ae d,ae d];by_cases c:b.val<a.val
  .rw[ae Z,fF c];rfl
  .rw[M Z,e7 c];split<;>rfl
 .rw[M d,M d];by_cases c:a.val<b.val
  .rw[ae Z,fF c];rfl
  .rw[M Z,e7 c];split<;>rfl
theorem Ww(b:Nat):SWO (ltOf (lo b)) where
 irrefl x:=by rw[rB];split<;>simp
 trans x y z h1 a:=by rw[rB]at*;split<;>simp_all [Fin.lt_def]<;>omega
 ntrans x y z h1 a:=by rw[rB]at*;split<;>simp_all [Fin.le_def]<;>omega
theorem Wx(c:Nat)(a b:Fin 8)(d:ltOf (lo c) a b=false)(e:ltOf (lo c) b a=false):a=b:=by rw[rB]at*;apply Fin.ext;split at d<;>simp_all [Fin.le_def]<;>omega
theorem Wy(b:Nat)(d:b<15)(a:Fin 8):qo b a/8=((cI b+a.val:Nat):Int)/\0<=qo b a/\qo b a<=1000:=by
 have e:=a.isLt;unfold qo;by_cases c:a.val<bw b
 .rw[ae c];unfold bw cI at*;omega
 .rw[M c];unfold cI at*;omega
theorem Wz{a:Prop}(b:a:=by
 have s:=Y j;clear k j h g p;go_in;go_wp2_with fail
 refine s.out.mono ?_;rintro e f ⟨rfl,rfl⟩;exact AG):a:=b
theorem aj1(d:N)(n a:Nat)(m:a<15)(p:ag d n 3 #[.int .i64 (a:Int)])(c b:Fin 8):Calls Tryz.prog 208 #[ow a c,ow a b,.pointer (some ⟨n,0,none⟩)] d λe f=>e=.returned (.int .i64 (lo a c b))/\f=d:=by
 obtain⟨o,u,w⟩:=Wy a m c;obtain⟨l,t,q⟩:=Wy a m b;have x:=p.au 0;have h:=Y (show a%2=0->Calls Tryz.prog 32 #[.int .i64 ((cI a+b.val:Nat):Int),.int .i64 ((cI a+c.val:Nat):Int)] d λe f=>e=.returned (.int .i64 (lo a c b))/\f=d from λi=>by have:=AnyG.cmp_Compare_int Wv ((cI a+b.val:Nat):Int) ((cI a+c.val:Nat):Int) d;unfold lo;rw[ae i];exact this);have g:=Y (show¬a%2=0->Calls Tryz.prog 32 #[.int .i64 ((cI a+c.val:Nat):Int),.int .i64 ((cI a+b.val:Nat):Int)] d λe f=>e=.returned (.int .i64 (lo a c b))/\f=d from λi=>by have:=AnyG.cmp_Compare_int Wv ((cI a+c.val:Nat):Int) ((cI a+b.val:Nat):Int) d;unfold lo;rw[M i];exact this);unfold ow;generalize qo a c=z at o u w⊢;generalize qo a b=y at l t q⊢;generalize lo a c b=B at h g⊢;generalize cI a+c.val=cf at o h g;generalize cI a+b.val=A at l h g;by_cases k:a%2=0
 .have j:=h.out k;have r:((a:Int)%2==0)=true:=by rw[iz];omega
  exact Wz
 .have j:=g.out k;have r:((a:Int)%2==0)=false:=by rw[sd];omega
  exact Wz
def lp(a:Nat):List (Fin 8):=(List.finRange 8).take (bw a)
theorem yI(b:bw a<=8):(lp a).length=bw a:=by simp[lp];omega
theorem JF(d:bw a<=8)(c:b<bw a):(lp a)[b]? =some ⟨b,Z⟩:=by unfold lp;rw[pg,ae c,cu aw];simp
def mS(a:Nat):List (Fin 8):=if a%2=0 then(lp a).reverse else lp a
theorem WA(c:Nat):(lp c).Pairwise λa b=>a<b:=(by decide:(List.finRange 8).Pairwise λa b=>a<b).sublist (List.take_sublist _ _)
theorem aj2(a:Nat):((lp a).mergeSort λg h=> !(ltOf (lo a)) h g)=mS a:=by
 refine List.Perm.eq_of_pairwise (le:=λg h=>(!(ltOf (lo a)) h g)=true) ?_ ?_ ?_ ((List.mergeSort_perm _ _).trans ?_)
 .intro b d _ _ h1 e;simp only[x5]at h1 e;exact Wx a b d e h1
 .refine List.pairwise_mergeSort ?_ ?_ _
  .intro b d c h1 e;simp only[x5]at h1 e⊢;exact(Ww a).ntrans c d b e h1
  .intro b d;rw[rB,rB];split<;>simp[Fin.le_def]<;>omega
 .unfold mS;by_cases f:a%2=0
  .rw[ae f,List.pairwise_reverse];refine(WA a).imp λ{b d} i=>?_;rw[rB,ae f];simp[Fin.lt_def]at*;omega
  .rw[M f];refine(WA a).imp λ{b d} i=>?_;rw[rB,M f];simp[Fin.lt_def]at*;omega
 .unfold mS;split
  .exact(List.reverse_perm _).symm
  .exact List.Perm.refl _
theorem WB(b:bw a<=8):(mS a).length=bw a:=by unfold mS;split<;>simp[yI b]
theorem aj3(c:bw a<=8)(e:b<bw a):(mS a)[b]? =some ⟨if a%2=0 then bw a-1-b else b,rX⟩:=by
 unfold mS;by_cases d:a%2=0
 .simp only[ae d];rw[List.getElem?_reverse (by rw[yI c];exact e),yI c];exact JF c Z
 .simp only[M d];exact JF c e
theorem WC(g:Fin 8->Value)(b:N)(c j i:Nat)(e:Array (Fin 8))(f:Array Obj){a:Nat}(h:a<b.heap.size)(d:a≠c):(sortWorld g b c j i e f).heap[a]? =b.heap[a]? :=by unfold sortWorld;rw[heap_grow_old _ _ (by simpa[putRow,mapBlock,Sort.ahead]using h)];simp[putRow,mapBlock,Sort.ahead,DH,hv d]
theorem aj4(g:Fin 8->Value)(c:N)(a h k:Nat)(d:Array (Fin 8))(i:Array Obj){f:Qat}{e:Qad}(b:ag c a f e):ag (sortWorld g c a h k d i) a f (putCells g h d e):=by have j:=b.lt;unfold ag at b⊢;unfold sortWorld;rw[heap_grow_old _ _ (by simpa[putRow,mapBlock,Sort.ahead]using j)];simp[putRow,mapBlock,Sort.ahead,DH,b,onCells]
theorem aj5(e:Fin 8->Value)(a:N)(b g f:Nat)(c:Array (Fin 8))(d:Array Obj):V [b] a (sortWorld e a b g f c d):=⟨rfl,rfl,rfl,by simp[sortWorld,putRow,mapBlock,Sort.ahead],λj i h=>WC e a b g f c d i (by simpa using h)⟩
theorem aj6:dD:=by
 intro e h i a t j n;obtain⟨za,zb,W,f,H⟩:=KV t;have F:i≠h:=λm=>by subst m;exact absurd (ag.DI n j R) U
 have k:(lp a).toArray.size=bw a:=by simpa using yI f
 have K:∀b,b<bw a->gF a (bw a) (dx (8*a)+b)=((7*(cI a+b)+a:Nat):Int):=λb c=>by unfold gF;rw[M Z,ae Z,show dx (8*a)+b-dx (8*a)=b from Z]
 have J:Holds (ow a) e h (dx (8*a)) (lp a).toArray:=by
  intro b c;rw[k]at c;refine⟨?_,j.eA _⟩;rw[j.au,dw Z,K b c];have l:=JF f c;have:(lp a).toArray[b]! =⟨b,Z⟩:=by rw[getElem!_pos _ _ (by rw[k];exact c)];have d:(lp a)[b]? =some ((lp a)[b]'(by rw[yI f];exact c)):=cu _;rw[l]at d;injection d with d;simpa using d.symm
  rw[this];unfold ow qo;rw[ae c]
 have I:CmpLays1 Tryz.prog 208 #[.pointer (some ⟨i,0,none⟩)] (ow a) (lo a) h (dx (8*a)) (lp a).toArray.size e:=by intro D p L _ G A;have B:ag (sortWorld (ow a) e h (dx (8*a)) D L p) i 3 #[.int .i64 (a:Int)]:=(WC _ _ _ _ _ _ _ n.lt F).trans n;refine(aj1 _ i a t B G A).mono λm Q ⟨o,C⟩=>⟨o,0,#[],?_⟩;rw[C,grow_empty];rfl
 have O:∀args e,(callFunc 208 args).run Tryz.prog e=.ok (.enter 208 args) e:=enters_of Tryz.func208 ar rfl;have r:=Any.slices_SortFunc_total ajZ (ow a) (λ_=>rfl) (lo a) (Ww a) 208 #[.pointer (some ⟨i,0,none⟩)] h (dx (8*a)) (64-dx (8*a)) (lp a).toArray e O I J j.lt (by rw[k];omega) (Wx a);rw[k,aj2]at r;refine Calls.mono r ?_;rintro m Q ⟨o,z,p,rfl⟩;refine⟨o,aj5 _ _ _ _ _ _ _,?_⟩;have w:=aj4 (ow a) e h (dx (8*a)) z (mS a).toArray p j;have P:putCells (ow a) (dx (8*a)) (mS a).toArray (an .i64 64 (gF a (bw a)))=an .i64 64 (c3 (dx (8*(a+1))) (jN false)):=by
  apply kc;intro g;unfold putCells;rw[Array.getElem?_mapIdx];by_cases u:g<64
  .rw[dw u,dw u];have s:(mS a).toArray.size=bw a:=by simpa using WB f
   simp only[hU,s];by_cases x:dx (8*a)<=g/\g<dx (8*a)+bw a
   .rw[ae x];obtain⟨b,rfl⟩:∃b,g=dx (8*a)+b:=⟨g-dx (8*a),Z⟩;have c:b<bw a:=Z;rw[show dx (8*a)+b-dx (8*a)=b from Z];have l:=aj3 f c;have E:(mS a).toArray[b]! =⟨if a%2=0 then bw a-1-b else b,rX⟩:=by rw[getElem!_pos _ _ (by rw[s];exact c)];have d:(mS a)[b]? =some ((mS a)[b]'(by rw[WB f];exact c)):=cu _;rw[l]at d;injection d with d;simpa using d.symm
    rw[E];have y:(if a%2=0 then bw a-1-b else b)<bw a:=rX;unfold ow qo c3 jN;simp only;rw[ae y,ae (show dx (8*a)+b<dx (8*(a+1))from Z),H b c]
   .rw[M x];unfold gF c3;by_cases q:g<dx (8*a)
    .rw[ae q,ae Z]
    .rw[M q,M Z,M Z]
  .rw[hP td,hP td];rfl
 rw[P]at w;exact w
end
namespace topPadded
open Go.ChangeShapes Go.WideShapes Go.ChangeAt Go.RowKit
def DE:List Int:=[0,8,16,24,1,9,2,10,17,25,32,40,48,56,57,49,41,33,26,18,3,11,4,12,19,27,34,42,50,58,35,43,51,59,20,28,5,13,6,14,21,29,36,44,52,60,37,45,53,61,22,30,7,15,23,31,38,46,54,62,39,47,55,63]
def DF:List Int:=[8,16,19,22,26,27,29,34,16,16,22,24,27,29,34,37,19,22,26,27,29,34,34,38,22,22,26,27,29,34,37,40,22,26,27,29,32,35,40,48,26,27,29,32,35,40,48,58,26,27,29,34,38,46,56,69,27,29,35,38,46,56,69,83]
theorem WD:Tryz.prog.globalNamed "cutroom/quant.alternateScan"=some 1:=ar
theorem WE:Tryz.prog.globalNamed "cutroom/quant.defaultIntra"=some 0:=ar
theorem aj7:(Tryz.prog.globals[1]?).map (·.type)=some 230:=ar
theorem aj8:(Tryz.prog.globals[0]?).map (·.type)=some 24:=ar
theorem aj9:(DE.map (Value.int .i64)).toArray=an .i64 64 (jN true):=ar
theorem aka:(DF.map (Value.int .u8)).toArray=an .u8 64 mj:=ar
theorem WG{name:String}{k:DataW Unit}{n:List (String×DataW Unit)}{a:Nat}(f:Tryz.prog.globalNamed name=some a)(l:0<d.size)(b:c.var? Tryz.prog name=some d)(i:laidMet Tryz.prog ((name,k)::n) c):∃e,ag c a e d:=by
 obtain⟨m,⟨t,x,y,r,w,u,o,_,p,_,_,h⟩,_,j⟩:=i;obtain rfl:=mc (f.symm.trans o);obtain rfl:=mc (b.symm.trans p);have q:MemPlace.cell a 0∈m:=by rw[h];exact List.mem_append_left _ (List.mem_append_left _ (MemPlace.mem_row.2 ⟨0,l,U⟩))
 obtain⟨⟨s,e,g⟩,_⟩:=j a 0 q;refine⟨e,?_⟩;simp only[World.var?,f,yV,g,iA]at b;subst b;exact g
theorem akb{c:String×DataW Unit}{b:List (String×DataW Unit)}{a:N}(d:laidMet Tryz.prog (c::b) a):laidMet Tryz.prog b a:=by obtain⟨s,g,h,k⟩:=d;obtain⟨n,p⟩:=c;obtain⟨r,t,q,m,o,e,_,_,_,_,f,rfl⟩:=g;exact⟨e,f,(IX.1 h).2.1,λi l j=>k i l (List.mem_append_right _ j)⟩
theorem akc(f:laidMetH Tryz.prog Rows.topPaddedRow.laid c):dA c:=by have a:laidMet Tryz.prog (("cutroom/quant.alternateScan",Lib.tabData .i64 DE)::[("cutroom/quant.defaultIntra",Lib.tabData .u8 DF)]) c:=f;have e:c.var? Tryz.prog "cutroom/quant.alternateScan"=some (DE.map (Value.int .i64)).toArray:=Lib.tabIs_of_head (n:=64) WD aj7 Tryz.underlying230 Tryz.underlying3 ar ar a;have b:=akb a;have d:c.var? Tryz.prog "cutroom/quant.defaultIntra"=some (DF.map (Value.int .u8)).toArray:=Lib.tabIs_of_head (n:=64) WE aj8 Tryz.underlying24 Tryz.underlying5 ar ar b;rw[aj9]at e;rw[aka]at d;exact⟨WG WD td e a,WG WE td d b⟩
theorem akd(l:Type)(c:TypeId×Value->l)(a:N)(r:Nat)(args:Qad)(h D:List (DataW l))(H:List MemPlace) (b:∀(j:Nat) t v,Tryz.f3.params[j]? =some t->args[j]? =some v->Value.okWide Tryz.prog a .any r t v) (e:DataW.Whole c Tryz.prog Tryz.f3.params.toList Rows.topPaddedSpec.vars false a args.toList h D H) (E:laidMetH Tryz.prog Rows.topPaddedRow.laid a):Calls Tryz.prog 3 args a λf d=>∃v,f=.returned v/\Rows.topPaddedSpec.post c Tryz.prog Tryz.f3 false true false false a args v d:=by
 have p:=e;obtain⟨u,Q,w,F,rfl,K,za⟩:=e;have k:DataW.TrodAll c Tryz.prog a 0 (λ_=>true) true Tryz.f3.params.toList args.toList h u:=w;rw[Tryz.params3]at k b;obtain⟨i,zb,ze,zc,zf,P,zd,rfl,rfl,I,x⟩:=trodAll_cons k;obtain⟨g,J,O,L,zh,W,rfl,rfl,rfl,q,y⟩:=trodAll_cons x;obtain⟨rfl,rfl,rfl⟩:=trodAll_nil y;obtain rfl:args=#[i,g]:=by cases args;simp_all
 obtain⟨rfl,rfl⟩:=trodVars_none F;obtain⟨B,m,n,z,G,aL,rfl,A⟩:=ajX (b 0 32 i rfl rfl) I;obtain⟨o,rfl,_,_,_⟩:=open_int Tryz.underlying2 (b 1 2 g rfl rfl) q;refine(ajT a B m n z G aL o A (akc E) aj6).mono λf d ⟨C,s⟩=>?_;subst C;exact⟨_,rfl,YX p ak0 ar rfl ⟨rfl,rfl,rfl⟩ rfl Tryz.underlying4 s.fv⟩
def lay(c:Qad):Obj->Obj
 |.cells _ a frozen=>.cells c a frozen
 |b=>b
def DG:Qas:=.agg (iU ⟨⟨0,0,0,0,false,0,0,λ_=>0,λ_=>0⟩,none,0,0,none,0,0,false,false,false,0⟩)
def ake:DataW e:=.agg [.agg [.lit (.int .i64 0),.lit (.int .i64 0),.agg [.lit (.int .i64 0),.lit (.int .i64 0)],.lit (.bool false),.lit (.int .i64 0),.lit (.int .i64 0),.agg (List.replicate 64 (.lit (.int .u8 0))),.agg (List.replicate 64 (.lit (.int .u8 0)))],.nil,.nil,.agg [.lit (.bool false),.lit (.bool false),.lit (.bool false)],.lit (.int .i64 0)]
noncomputable def JG(a:Os):N:={World.holding Tryz.prog a ⟨#[],#[],[]⟩with heap:=((World.holding Tryz.prog a ⟨#[],#[],[]⟩).heap.modify 1 (lay (DE.map (Value.int .i64)).toArray)).modify 0 (lay (DF.map (Value.int .u8)).toArray)}
theorem akf(a:Os):laidMet Tryz.prog Rows.topPaddedRow.laid ((JG a).forCall (λ_ _=>0) ⟨#[],#[DG,.int .i64 0],[]⟩).memory:=laidMet_of_run' 8 ar ar
theorem reads(c:Os){b:Type}(a:TypeId×Value->b):∃d,DataW.whole a Tryz.prog ((JG c).forCall (λ_ _=>0) ⟨#[],#[DG,.int .i64 0],[]⟩).memory Tryz.f3.params.toList Rows.topPaddedSpec.vars false #[DG,Value.int .i64 0].toList 8=some ([ake,.lit (.int .i64 0)],[],d):=⟨[],ar⟩
theorem lifted(a:Os)(i:a.Started)(c:Type)(b:TypeId×Value->c)(h:Stop.Interp):ReturnsInHanded {} Tryz.checked a 3 .any ((OpenSpec.ofChange Rows.topPaddedSpec).preRow b Tryz.prog Tryz.f3 Rows.topPaddedRow.domain false Rows.topPaddedRow.laid) (((OpenSpec.ofChange Rows.topPaddedSpec).at h).post b Tryz.prog Tryz.f3 false true false false):=by obtain⟨q,j⟩:=reads a b;refine returnsInHanded_of_row (C:=Tryz.checked) (s:=OpenSpec.ofChange Rows.topPaddedSpec) own i ar Tryz.func3 (witness_row_at (enc:=b) (C:=Tryz.checked) false (JG a) #[DG,.int .i64 0] rfl ar ar ar (OpenSpec.preRow_of_cond 8 j ar (λp l=>by cases l) ar (akf a))) ?_;intro f n args k e m o d _ _ _ g _ _;exact akd c b f n args k e m o d g
theorem fY{a b:Bool}(d:a=true)(c:b=true):(a&&b)=true:=by rw[d,c];rfl
theorem akg:(Rows.topPaddedRow.wf (OpenSpec.ofChange Rows.topPaddedSpec))=true:=ar
theorem akh:(laidOutB Tryz.prog)=true:=ar
theorem aki:(mapsRowed Tryz.prog)=true:=ar
theorem akj:(Tryz.f3.params.all (Tryz.prog.readableRec ·))=true:=ar
theorem akk:(namedTie Tryz.prog Rows.topPaddedRow.named Rows.topPaddedSpec.vars)=true:=ar
theorem akl:((Rows.topPaddedRow.stops==[]))=true:=ar
theorem akm:((Tryz.prog.stops==[]))=true:=ar
theorem akn:((Rows.topPaddedRow.knobs==[]))=true:=ar
theorem ako:((Tryz.prog.stopKnobs==[]))=true:=ar
theorem akp:((Rows.topPaddedRow.inPlace==Tryz.prog.inPlace 3))=true:=ar
theorem akq:((Rows.topPaddedRow.unfollowed==Tryz.prog.unfollowed 3))=true:=ar
theorem akr:((Rows.topPaddedRow.recurses==Tryz.prog.recurses 3))=true:=ar
theorem aks:((Rows.topPaddedRow.named==Tryz.prog.varsNamed 3))=true:=ar
theorem akt:((Rows.topPaddedRow.maps==(Tryz.f3.params.toList++Rows.topPaddedSpec.plain.varTypes Tryz.prog).any (Tryz.prog.mapsRec ·)))=true:=ar
theorem aku:((Rows.topPaddedRow.ifaces==(Tryz.f3.params.toList++Rows.topPaddedSpec.plain.varTypes Tryz.prog).any (Tryz.prog.ifacesRec ·)))=true:=ar
theorem akv:((Rows.topPaddedRow.mapsOut==Tryz.prog.mapsAmong Tryz.f3.resultTypes.toList))=true:=ar
theorem akw:((Rows.topPaddedRow.loops==(Tryz.f3.params.toList++Rows.topPaddedSpec.plain.varTypes Tryz.prog).any (Tryz.prog.loopsFrom ·)))=true:=ar
theorem akx:((Rows.topPaddedRow.wideKeys==(Tryz.f3.params.toList++Rows.topPaddedSpec.plain.varTypes Tryz.prog++Tryz.f3.resultTypes.toList).any (Tryz.prog.wideKeysFrom ·)))=true:=ar
theorem aky:(Rows.topPaddedSpec.vars.all (Tryz.prog.varReadable ·))=true:=ar
theorem akz:(Tryz.f3.resultTypes.all (λa=>Tryz.prog.readableRec a&&decide (a<Tryz.prog.types.size)))=true:=ar
theorem akA:((Rows.topPaddedRow.ifacesOut==Tryz.f3.resultTypes.toList.any (Tryz.prog.ifacesRec ·)))=true:=ar
theorem akB:((Rows.topPaddedRow.loopsOut==Tryz.f3.resultTypes.toList.any (Tryz.prog.loopsFrom ·)))=true:=ar
theorem akC:((Rows.topPaddedRow.plainKeys==Tryz.prog.plainKeys))=true:=ar
theorem akD:(Rows.topPaddedRow.shortTexts.isNone)=true:=ar
theorem akE:(Tryz.prog.stopsHeard)=true:=ar
theorem akF:(Tryz.prog.mayEnter)=true:=ar
theorem akG:((Rows.topPaddedRow.lifted==Tryz.prog.liftsFinal))=true:=ar
theorem akH:((Tryz.prog.make==some Rows.topPaddedRow.make))=true:=ar
theorem akI:((Rows.topPaddedRow.kinds==(if Rows.topPaddedRow.domain.isEmpty then[]else Tryz.f3.params.toList.map λa=>match Tryz.prog.underlying a with|some (.int b)=>some b|_=>none)))=true:=ar
theorem akJ:((Rows.topPaddedRow.pinned==Rows.topPaddedRow.pinnedBy))=true:=ar
theorem akK:((Rows.topPaddedRow.veiled==(Tryz.f3.params.toList++Rows.topPaddedSpec.plain.varTypes Tryz.prog++Tryz.f3.resultTypes.toList).any (Tryz.prog.veiledRec ·)))=true:=ar
theorem akL:(Rows.topPaddedRow.veiledFits Tryz.prog Tryz.f3.params.toList (Tryz.f3.params.toList++Rows.topPaddedSpec.plain.varTypes Tryz.prog++Tryz.f3.resultTypes.toList))=true:=ar
theorem closed:joinedFacts Tryz.prog 3 Tryz.f3 Rows.topPaddedSpec Rows.topPaddedRow=true:=by unfold joinedFacts;exact(fY (fY (fY (fY (fY (fY (fY (fY (fY (fY (fY (fY (fY (fY (fY (fY (fY (fY (fY (fY (fY (fY (fY (fY (fY (fY (fY (fY (fY (fY (fY akg akh) aki) akj) akk) akl) akm) akn) ako) akp) akq) akr) aks) akt) aku) akv) akw) akx) aky) akz) akA) akB) akC) akD) akE) akF) akG) akH) akI) akJ) akK) akL)
theorem akM:Tryz.prog.funcNamed "cutroom/cutroomtop.TopPadded"=some 3:=ar
theorem akN:Tryz.f3.isInstance Tryz.prog Rows.topPaddedRow.origin Rows.topPaddedRow.targs:=of_decide_eq_true ar
theorem akO:Tryz.f3.isWrapper Tryz.prog Rows.topPaddedRow.wrapper Rows.topPaddedRow.mainSum:=by unfold Func.isWrapper;first|(rw[ae bm];kernel_rfl)|(rw[M bm];exact⟨rfl,rfl⟩)
theorem said:Rows.TopPaddedSaid:=OpenClaim.holds_of_cond 3 Tryz.f3 rfl rfl rfl rfl rfl rfl rfl ⟨rfl,rfl,rfl,rfl,rfl⟩ rfl rfl rfl rfl rfl akM Tryz.func3 closed akN akO (λa c e d _ b=>by rw[OpenClaim.pre_eq_preRow];exact lifted a c e d b)
theorem plain(b:FuncId)(c:Func)(f:Tryz.pinned.checked.prog.funcNamed "cutroom/cutroomtop.TopPadded"=some b)(h:Tryz.pinned.checked.prog.funcs[b]? =some c):true=Tryz.pinned.checked.prog.looks []/\∀(d:Nat) a,c.params[d]? =some a->Tryz.pinned.checked.prog.wantsStandIn a=false:=by
 obtain rfl:b=3:=mc ((show Tryz.prog.funcNamed "cutroom/cutroomtop.TopPadded"=some 3 from ar).symm.trans f)|>.symm;obtain rfl:c=Tryz.f3:=(mc (Tryz.func3.symm.trans h)).symm;refine⟨ar,λd a e=>?_⟩;rw[Tryz.params3]at e;have g:a=32\/a=2:=by simpa using Array.mem_of_getElem? e
 rcases g with rfl|rfl
 .exact(show Tryz.prog.wantsStandIn 32=false from ar)
 .exact(show Tryz.prog.wantsStandIn 2=false from ar)
theorem card:Rows.TopPaddedCardSaid:=Claim7.holds_tied_plain_at .later [] _ _ _ _ said (λ_ i=>l') ar (λ_ i=>l') topPadded_row_tie rfl ⟨rfl,rfl⟩ ar rfl plain ar
#print axioms card
end topPadded
