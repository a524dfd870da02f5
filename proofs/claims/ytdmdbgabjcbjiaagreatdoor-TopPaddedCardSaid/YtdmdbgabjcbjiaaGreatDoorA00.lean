import Derived.WalkSpells
import Derived.WalkLawsBesides
import Derived.Lib.Hide
import Derived.Deep.AppendLies
import Derived.Laws.CopyOwn
import Derived.Test.YtdmdbgabjcbjiaaGreatDoorProg
set_option maxHeartbeats 0
set_option maxRecDepth 100000
set_option linter.all false
namespace Go.Proofs.YtdmdbgabjcbjiaaGreatDoor
open Go.RowKit
namespace fD
end fD
namespace cr
end cr
theorem aG{α:Sort _}{a:Prop}(b:α)(c:∀d,b=d->a):a:=c _ rfl
abbrev ck:=Go.RowKit.Hid
abbrev eh:Array Value:=#[.int .i64 0,.int .i64 0,.slice none 0 0,.slice none 0 0,.slice none 0 0]
theorem bB{d:Program}{e:Func}{c:Ending->World->Prop}{b:Act}{a:World}{v:Value}(f:(results e b.tmps).run d a=.ok v a)(h:c (.returned v) a)(g:b.defers=[]:=by rfl):bodyPost d e c .ret b a:=bodyPost_ret f g h
theorem xT{h:Program}{d:Func}{c:Ending->World->Prop}{b:Act}{a:World}(e:d.results=#[])(g:c (.returned (.tuple #[])) a)(f:b.defers=[]:=by rfl):bodyPost h d c .ret b a:=bodyPost_ret (results_none e _ _ _) f g
theorem gJ{i:Program}{e:Func}{c:Ending->World->Prop}{a:Act}{b:World}{d:Tmp}(f:e.results=#[.tmp d])(h:c (.returned (a.tmps.getD d undef)) b)(g:a.defers=[]:=by rfl):bodyPost i e c .ret a b:=bodyPost_ret (results_tmp f _ _ _) g h
theorem lT{j:Program}{f:Func}{c:Ending->World->Prop}{a:Act}{b:World}{d e:Tmp}(g:f.results=#[.tmp d,.tmp e])(i:c (.returned (.tuple #[a.tmps.getD d undef,a.tmps.getD e undef])) b)(h:a.defers=[]:=by rfl):bodyPost j f c .ret a b:=bodyPost_ret (results_tmp2 g _ _ _) h i
theorem Hq{j:Program}{f:Func}{c:Ending->World->Prop}{a:Act}{b:World}{d e v:Tmp}(g:f.results=#[.tmp d,.tmp e,.tmp v])(i:c (.returned (.tuple #[a.tmps.getD d undef,a.tmps.getD e undef,a.tmps.getD v undef])) b)(h:a.defers=[]:=by rfl):bodyPost j f c .ret a b:=bodyPost_ret (results_tmp3 g _ _ _) h i
abbrev dJ(a:TypeId)(v:Value):Prop:=(Go.Proofs.Tryz.prog.info? a).map (·.zero)=some (some v)
theorem dM{a:TypeId}{v:Value}(b:(Go.Proofs.Tryz.prog.info? a).map (·.zero)=some (some v):=by kernel_rfl):dJ a v:=b
abbrev kz(b:TypeId)(v:Value)(d c:Nat):Prop:=(Go.Proofs.Tryz.prog.info? b).map (fun a=>(a.zero,a.size,a.bytes))=some (some v,d,c)
theorem k7{c:TypeId}{v:Value}{b d:Nat}(e:(Go.Proofs.Tryz.prog.info? c).map (fun a=>(a.zero,a.size,a.bytes))=some (some v,b,d):=by kernel_rfl):kz c v b d:=e
structure cZ(a:Prop):Prop where out:a
abbrev cB(c:Oper)(b:Array Oper)(a:Act):Prop:=Region.wanted c (yielded b a.tmps)=true
structure hs:Type where X::ak7:Int
structure a7:Type where ab::ak8:Nat
instance(a:Int):CoeDep hs (.X a) Value:=⟨.int .i64 a⟩
instance(a:Nat):CoeDep a7 (.ab a) Value:=⟨.pointer (some ⟨a,0,none⟩)⟩
instance:Coe (Array Value) Value:=⟨.agg⟩
instance:Coe Bool Value:=⟨.bool⟩
instance(a:Nat):CoeDep a7 (.ab a) (Option Addr):=⟨some ⟨a,0,none⟩⟩
structure bj(a:Nat):Type
instance{a:Nat}(b:bj a):CoeDep (bj a) b Nat:=⟨a⟩
instance{a:Nat}(b:bj a):CoeDep (bj a) b Int:=⟨@OfNat.ofNat Int a _⟩
variable{b c a d:Prop}
theorem fE(a:True->True->b):b:=a trivial trivial
theorem nb(a:True->True->True->b):b:=a trivial trivial trivial
theorem kD(a:True->True->True->True->b):b:=a trivial trivial trivial trivial
theorem nh(a:True->True->True->True->True->b):b:=a trivial trivial trivial trivial trivial
theorem adw(a:True->True->True->True->True->True->b):b:=a trivial trivial trivial trivial trivial trivial
theorem AT(a:True->True->True->True->True->True->True->b):b:=a trivial trivial trivial trivial trivial trivial trivial
theorem adA(a:True->True->True->True->True->True->True->True->True->b):b:=a trivial trivial trivial trivial trivial trivial trivial trivial trivial
theorem aaC(a:True->True->True->True->True->True->True->True->True->True->True->b):b:=a trivial trivial trivial trivial trivial trivial trivial trivial trivial trivial trivial
abbrev Qaa:=Exit->Act->World->Prop
abbrev Qab:=Act->World->Prop
abbrev bX:=List (Nat×TypeId×Array Value)
abbrev Qad:=Array Value
abbrev Qae:=Option Addr
abbrev aj:=Nat->Int
abbrev af:=List Nat
abbrev Qah:=List Bool
abbrev Qai:=List (Oper×Nat)
abbrev Qaj:=List (Nat×Nat)
abbrev Qak:=Array Oper
abbrev Qal:=List Oper
abbrev Qam:=List Value
abbrev Qan:=Nat->Nat->Int
abbrev bU:=World->Prop
abbrev rD:=Ending->World->Prop
abbrev Qaq:=Array Bool
abbrev N:=World
abbrev Qas:=Value
abbrev Qat:=TypeId
abbrev Qau:=Operand
abbrev Qav:=Program
abbrev Qaw:=IntKind
abbrev Qax:=Oper
abbrev Qay:=Addr
def a':=@Nat.le_refl
def b7:=@Nat.le_trans
def gD:=@Nat.lt_of_lt_of_le
def jn:=@Nat.lt_or_ge
def hP:=@Array.getElem?_eq_none
def b4:=@List.getElem?_toArray
def dY:=@List.getElem?_cons_zero
def dt:=@List.getElem?_cons_succ
def dZ:=@List.cons_append
def cU:=@List.nil_append
def DH:=@Array.getElem?_modify
def ht:=@Array.getElem?_eq_some_iff
def gk:=@Nat.add_assoc
def cu:=@List.getElem?_eq_getElem
def qs:=@Nat.mul_pos
def eB:=@if_true
def f':=@World.block_lt_of_cell?
def oB:=@List.length_drop
def M:=@if_neg
def pf:=@List.getElem?_drop
def kb:=@List.length_take
def DK:=@Nat.min_eq_left
def ix:=@Nat.mul_le_mul_right
def pg:=@List.getElem?_take
def h7:=@run_underlying
def mV:=@Nat.eq_zero_or_pos
def mb:=@List.eq_nil_of_length_eq_zero
def jo:=@Nat.zero_le
def eS:=@Sem.run_bind
def iW:=@Sem.run_pure
def gl:=@Result.andThen_ok
def gm:=@List.map_toArray
def cj:=@List.map_cons
def ee:=@List.map_nil
def jq:=@wpList_plain
def pB:=@Int.natCast_mul
def gx:=@Int.toNat_natCast
def mW:=@List.size_toArray
def tc:=@List.mem_of_mem_take
def r3:=@List.foldl_cons
def cz:=@List.length_cons
def tE:=@Nat.pow_succ
def nO:=@Nat.add_mul
def eF:=@Nat.mul_comm
def wy:=@Nat.mul_assoc
def Ax:=@Nat.mul_zero
def c':=@Nat.zero_add
def Ay:=@List.foldl_append
def ae:=@if_pos
def fF:=@decide_eq_true
def e7:=@decide_eq_false
def LD:=@Nat.testBit_succ
def tG:=@List.take_succ_eq_append_getElem
def EF:=@Nat.eq_of_testBit_eq
def yR:=@Bool.true_and
def b9:=@List.getD_eq_getElem?_getD
def tH:=@List.getElem?_take_of_lt
def fx:=@List.getElem?_map
def qN:=@List.getElem?_range
def hU:=@Option.map_some
def lE:=@Option.getD_some
def ml:=@List.take_of_length_le
def r0:=@Nat.mod_eq_of_lt
def ju:=@List.length_map
def nP:=@List.length_range
def oC:=@List.map_congr_left
def fq:=@List.mem_range
def eE:=@List.getElem?_append_left
def fN:=@List.getElem?_eq_none
def db:=@List.getElem?_append_right
def lF:=@Nat.sub_self
def tj:=@Bool.false_or
def mm:=@List.range_succ
def hf:=@List.map_append
def EW:=@World.ownsRow_nil
def AF:=@Nat.testBit_eq_decide_div_mod_eq
def nc:=@Nat.mod_lt
def pz:=@Nat.pow_le_pow_right
def eL:=@Nat.mul_le_mul
def hv:=@Ne.symm
def cb:=@List.setIfInBounds_toArray
def cQ:=@List.set_cons_succ
def cK:=@List.set_cons_zero
def rZ:=@Nat.div_eq_of_lt
def k8:=@info_parts
def Y:=@Lib.hid
def hQ:=@List.mem_cons_of_mem
def b5:=@List.append_assoc
def wD:=@Nat.two_pow_pos
def qA:=@bne_iff_ne
def kc:=@Array.ext_getElem?
def qu:=@Array.getElem?_setIfInBounds
def kw:=@Array.all_eq_true_iff_forall_mem
def yQ:=@List.all_cons
def oF:=@Bool.false_eq_true
def k2:=@if_false
def DO:=@run_equalIn_array
def k3:=@Nat.mul_one
def DP:=@wpList_store_row
def dB:=@Bool.and_eq_true
def k5:=@Bool.or_eq_true
def iz:=@beq_iff_eq
def mc:=@Option.some.inj
def rH:=@getD_set_ne
def vS:=@execOp_put
def oG:=@Act.put_comm
def nH:=@wpOp_mono
def qw:=@ready_mono
def tl:=@Region.noSelect_spec
def tg:=@Array.setIfInBounds_comm
def iA:=@Option.some.injEq
def th:=@Prod.mk.injEq
def hd:=@List.mem_cons_self
def jJ:=@List.nodup_cons
def bu:=@List.mem_cons
def kd:=@not_or
def ti:=@List.mem_map_of_mem
def DZ:=@List.length_erase_of_mem
def D0:=@List.length_pos_of_mem
def yW:=@List.mem_of_mem_erase
def ca:=@List.mem_map
def yX:=@List.contains_iff_mem
def yY:=@Bool.eq_false_iff
def tk:=@Bool.or_eq_false_iff
def ke:=@List.all_eq_true
def yV:=@Option.bind_some
def vV:=@Region.free_spec
def df:=@List.mem_singleton
def eC:=@List.not_mem_nil
def mX:=@decide_eq_true_eq
def tm:=@Option.isSome_iff_exists
def y0:=@wp_region_any
def tn:=@run_loadVar_row
def AS:=@Int.natCast_ediv
def qF:=@Int.mul_nonneg
def wm:=@Int.mul_le_mul
def rN:=@wpList_load_row
def nf:=@wpList_step
def v':=@results_cell_row
def aZ:=@List.length_append
def ki:=@Nat.add_sub_cancel_left
def eo:=@Array.getElem?_toList
def e8:=@List.getElem?_eq_some_iff
def wL:=@Array.getElem?_eq_getElem
def Md:=@Array.getElem?_setIfInBounds_ne
def AO:=@Nat.eq_or_lt_of_le
def fs:=@Nat.add_zero
def qR:=@run_sliceBound
def rW:=@Option.map_none
def tT:=@List.take_left'
def E4:=@List.drop_append
def AW:=@List.drop_of_length_le
def ia:=@Nat.succ_mul
def hy:=@List.length_replicate
def wQ:=@List.replicate_zero
def eG:=@List.append_nil
def jw:=@bodyPost_end
def bc:=@List.mem_append
def py:=@List.mem_of_mem_drop
def wT:=@Nat.mul_left_comm
def sd:=@beq_eq_false_iff_ne
def A0:=@Nat.one_mul
def bS:=@List.mem_of_getElem?
def la:=@List.getElem_mem
def y4:=@wpList_build
def aX:=@congrArg
def rO:=@Int.mul_le_mul_of_nonneg_left
def m':=@Nat.lt_succ_self
def wx:=@List.getElem?_replicate
def r4:=@List.replicate_succ
def Fg:=@List.set_append_right
def wX:=@List.eq_of_mem_replicate
def dv:=@List.length_nil
def wi:=@List.mem_filter
def bf:=@List.forall_mem_cons
def uc:=@and_true
def Bc:=@List.getElem?_of_mem
def sh:=@List.getElem?_set_self
def qT:=@List.getElem?_set_ne
def oM:=@List.ext_getElem?
def ud:=@List.mem_or_eq_of_mem_set
def fT:=@Nat.not_lt_zero
def FJ:=@List.getElem?_zipWith
def AA:=@List.take_add_one
def Bw:=@Int.tdiv_le_tdiv
def jc:=@wp_loop_rounds
def cR:=@rounds_succ
def c9:=@Nat.le_of_ble_eq_true
def q0:=@wp_build
def r6:=@List.getLastD_eq_getLast?
def r7:=@List.getLast?_eq_getElem?
def wC:=@List.cons.injEq
def AE:=@List.map_map
def EK:=@Nat.add_sub_cancel
def wF:=@List.drop_left
def tK:=@List.take_left
def F3:=@Nat.lt_trichotomy
def uw:=@List.drop_drop
def Ab:=@Nat.add_comm
def BK:=@callsD_of_wpS
def BL:=@leaves_cons
def jW:=@results_none
def kI:=@or_false
def ty:=@Int.mul_le_mul_of_nonneg_right
def AH:=@Int.mul_ediv_add_emod
def AI:=@Int.emod_nonneg
def AJ:=@Int.emod_lt_of_pos
def qO:=@Int.mul_assoc
def EO:=@Int.ediv_eq_zero_of_lt
def Fw:=@Int.add_zero
def lf:=@Nat.lt_irrefl
def nr:=@Array.length_toList
def KZ:=@Nat.gcd_comm
def Gz:=@Array.size_append
def uJ:=@List.perm_append_singleton
def O':=@World.ownsMap.lt
def FB:=@bne_eq_false_iff_eq
def GX:=@List.length_singleton
def uk:=@List.drop_zero
def xe:=@Nat.div_lt_of_lt_mul
def xf:=@Nat.div_add_mod
def kR:=@Int.toNat_of_nonneg
def px:=@List.getLastD_cons
def AN:=@List.take_append_drop
def tN:=@List.drop_eq_getElem_cons
def wK:=@List.take_length
def tP:=@List.length_pos_iff
def B4:=@Nat.ne_of_lt
def u':=@List.mem_toArray
def HK:=@List.range_zero
def HL:=@List.flatten_nil
def xW:=@Array.size_setIfInBounds
def HD:=@List.drop_succ_cons
def vm:=@List.foldl_nil
def p3:=@List.length_modify
def x5:=@Bool.not_eq_true'
def iu:=@wpIn_seq
def Dc:=@wpIn_cond_true
def T':=@wpIn_cond_false
def um:=@List.mem_flatMap
def IX:=@List.nodup_append
def Dt:=@List.flatten_cons
def Jk:=@List.sum_append
def Jp:=@List.sum_cons
def Jr:=@List.getD_cons_zero
def Ds:=@Int.mul_zero
def JE:=@Value.slice.injEq
def Z(a:b:=by omega):=a
def U(a:b:=by simp):=a
def R(a:b:=by decide):=a
def ar(a:b:=by kernel_rfl):=a
def aw(a:b:=by simp;omega):=a
def a8(a:b:=by go_num):=a
def bm(a:b:=by decide+kernel):=a
def bF(a:b:=by simp[intOf];omega):=a
def fy(a:b:=by simp[Value.oneCell']):=a
def gV(a:b:=by simp[kh]):=a
def hG(a:b:=by have:=i.out;omega):=a
def ib(a:b:=by unfold maxLen;omega):=a
def jT(a:b:=by simp[f]):=a
def iB(a:b:=by simpa using i):=a
def iD(a:b:=by simpa using g):=a
def jD(a:b:=by rw[ap,ap,gI,gI]):=a
def kf(a:b:=by simpa using e):=a
def kp(a:b:=by match j,k with|0,_=>exact(hX (by decide) rfl)|1,_=>exact(hX (by decide) rfl)):=a
def lS(a:b:=by trivial):=a
def lU(a:b:=by rw[ap,gI];decide):=a
def l'(a:b:=by cases i):=a
def mo(a:b:=by simp[aC]):=a
def mJ(a:b:=by simp[ay,cO,da]):=a
def mF(a:b:=by first|(go_simp;done)|(go_simp;rfl)):=a
def mY(a:b:=by simpa using p):=a
def ng(a:b:=by rw[G];omega):=a
def nj(a:b:=by simp[d]):=a
def oq(a:b:=by have:=zc.out;omega):=a
def ov(a:b:=by rw[C];rfl):=a
def oT(a:b:=by simp[q]):=a
def pv(a:b:=by simp[l]):=a
def pS(a:b:=by match j,k with|0,_=>rfl|1,_=>rfl|2,_=>rfl|3,_=>rfl):=a
def pT(a:b:=by simp[r]):=a
def qI(a:b:=by rw[e];omega):=a
def q3(a:b:=by match j,k with|0,_=>exact(hX (by decide) rfl)|1,_=>exact(hX (by decide) rfl)|2,_=>exact(hX (by decide) rfl)|3,_=>exact(hX (by decide) rfl)|4,_=>exact(hX (by decide) rfl)|5,_=>exact(hX (by decide) rfl)):=a
def q9(a:b:=by simpa using e):=a
def rJ(a:b:=by simpa using i):=a
def sn(a:b:=by match j,k with|0,_=>rfl|1,_=>rfl):=a
def rX(a:b:=by split<;>omega):=a
def r5(a:b:=by simp at e):=a
def sx(a:b:=by unfold fV;simp[n]):=a
def sy(a:b:=by unfold il;simp[n,m]):=a
def sz(a:b:=by unfold oc;simp[n]):=a
def sA(a:b:=by unfold ep;rw[k,l];rfl):=a
def sC(a:b:=by unfold hC;simp;omega):=a
def r1(a:b:=by simp[d]):=a
def sL(a:b:=by rw[iP];omega):=a
def sU(a:b:=by have:=za.out;omega):=a
def ta(a:b:=by simp[dL,Value.ownBlock]):=a
def td(a:b:=by rw[gO];omega):=a
def tf(a:b:=by rw[w]at n;cases n):=a
def tU(a:b:=by rw[f.d'];omega):=a
def tV(a:b:=by rw[f.eM];omega):=a
def tW(a:b:=by rw[f.aR];omega):=a
def t'(a:b:=by have:=f.kC;omega):=a
def tq(a:b:=by rw[gO,gO]):=a
def uf(a:b:=by rw[gI];omega):=a
def tI(a:b:=by rw[p];rfl):=a
def uF(a:b:=by simpa[bg,bb]using f):=a
def uR(a:b:=by match j,k with|0,_=>exact(hX (by decide) rfl|>.trans (aX (λl=>some (Value.bool l)) zK.out))|1,_=>exact(hX (by decide) rfl|>.trans (aX (λl=>some (Value.bool l)) zF.out))):=a
def vC(a:b:=by rw[sR,sR]):=a
def vF(a:b:=by unfold fo;rw[e];omega):=a
def vQ(a:b:=by simpa using c):=a
def xa(a:b:=by simp[aC,c]):=a
def wa(a:b:=by rw[d];rfl):=a
def wc(a:b:=by rw[show 8*(b+1)=8*b+8 by omega];exact s):=a
def w3(a:b:=by simpa using D):=a
def xk(a:b:=by match j,k with|0,_=>exact(fa (by decide) rfl)|1,_=>exact(fa (by decide) rfl)):=a
def wt(a:b:=by simp[da];omega):=a
def xl(a:b:=by simpa using b):=a
def xz(a:b:=by rw[ap,gI];omega):=a
def x0(a:b:=by rw[iP];exact b):=a
def x2(a:b:=by simp[c5,iP]):=a
def yd(a:b:=by rw[l3]at h;simp at h):=a
def ye(a:b:=by rw[gr];omega):=a
def yp(a:b:=by simpa using z):=a
def yh(a:b:=by rw[gX]):=a
def xx(a:b:=by simp only[aZ,cz,dv];have:=GR g f h a;have:=Cc g f (bn f h a) a d;have:=qY (c-P);have:=zaf.out;omega):=a
def yO(a:b:=by simp only[maxLen]at i;omega):=a
def AQ(a:b:=by have:=l.out;omega):=a
def yP(a:b:=by simp[an,gE]):=a
def A2(a:b:=by rw[f.d'];exact E' f.eN f.ev E F d w):=a
def A3(a:b:=by rw[f.eM];exact Fa f.eN f.ev E F d w):=a
def A4(a:b:=by rw[f.aR];exact Fa f.eN f.ev E F d w):=a
def Bb(a:b:=by have:=f.he;omega):=a
def BD(a:b:=by have:=f.fH;omega):=a
def BE(a:b:=by have:=f.fr;omega):=a
def BC(a:b:=by rw[gO,gO];decide):=a
def BT(a:b:=by match j,k with|0,_=>exact(fa (by decide) rfl)|1,_=>exact(fa (by decide) rfl)|2,_=>exact(fa (by decide) rfl)|3,_=>exact(fa (by decide) rfl)):=a
def Co(a:b:=by have:=p.out;omega):=a
def BV(a:b:=by have:=i.gG;omega):=a
def Cp(a:b:=by unfold jX;omega):=a
def CA(a:b:=by rw[r2];omega):=a
def CF(a:b:=by simp[cO,da,iy]):=a
def CU(a:b:=by have:=za.out;unfold maxLen;omega):=a
def C4(a:b:=by have:=zc.out;unfold maxLen;omega):=a
def C8(a:b:=by show a<4;exact n):=a
def C7(a:b:=by rw[o2];omega):=a
def Dh(a:b:=by simpa using L b (by simp[k])):=a
def Dv(a:b:=by simp only;omega):=a
def Dy(a:b:=by rw[zaU];have:=zaX.out;omega):=a
def Dz(a:b:=by have:=vJ zk.out i g;omega):=a
def DA(a:b:=by rw[zaF.out];omega):=a
def DB(a:b:=by rw[zba.out];have:=za0.out;omega):=a
def Bk(a:b:=by rw[q.out.1,q.out.2];rfl):=a
def D1(a:b:=by rw[DQ];rw[<-zk]at y;simpa using y):=a
def D6(a:b:=by rw[l]at i;cases i.2):=a
def E2(a:b:=by have:=p.size;have:=o.size;omega):=a
def E3(a:b:=by have:=p.size;have:=o.size;have:=j.size;omega):=a
def Ef(a:b:=by rw[zv.out];exact(ag.aP _ _ _).alloc _):=a
def Ei(a:b:=by have:=K.ma (8*b+d) (X n);rwa[ph (by omega) B.out]at this):=a
def Ek(a:b:=by rw[rG];exact ag.aP _ _ _):=a
def Gl(a:b:=by match b,c with|0,_=>rfl|1,_=>rfl|2,_=>rfl|3,_=>rfl|4,_=>rfl|5,_=>rfl):=a
def EJ(a:b:=by rw[wA];omega):=a
def F5(a:b:=by simp[kh];omega):=a
def F6(a:b:=by unfold lP;rw[M (by omega)]):=a
def Gc(a:b:=by simp at e;subst e;exact zF):=a
def Gd(a:b:=by simp at e;subst e;exact zf):=a
def GV(a:b:=by unfold bn;rw[M (by omega)]):=a
def GC(a:b:=by rw[n.au (f' _ _ Q) (by simp)];exact Q):=a
def GF(a:b:=by rw[<-C];split<;>omega):=a
def EA(a:b:=by rw[iy];simp[da];omega):=a
def He(a:b:=by rw[show 13+2*h+1=14+2*h by omega]at t;omega):=a
def Hz(a:b:=by simp[gU,kh]):=a
def HA(a:b:=by simp[gh,kh]):=a
def HB(a:b:=by have:=xS a.a mj;have:=xS a.b pr;simp[fc,kh];omega):=a
def H7(a:b:=by have:=i.out;unfold maxLen;omega):=a
def IM(a:b:=by rw[vu];exact K.out.toOk):=a
def I3(a:b:=by have:=p.out;unfold maxLen;omega):=a
def I4(a:b:=by show(1:Int)<=3;decide):=a
def I5(a:b:=by show(3:Int)<=3;decide):=a
def I7(a:b:=by show 1<=1+(c:Int);omega):=a
def I8(a:b:=by show 1+(c:Int)<=3;omega):=a
def Jo(a:b:=by unfold bJ.dG;split<;>decide):=a
def Js(a:b:=by rw[C];exact⟨rfl,rfl⟩):=a
def EC(a:b:=by rw[iy];omega):=a
def FC(a:b:=by rw[gr,gr]):=a
def Ii(a:b:=by have:=zr.out;have:=zw.out.lG;omega):=a
def Ih(a:b:=by rw[r.out];exact c9 rfl):=a
def Mm(a:b:=by rw[n];exact b7 (eL (b7 zs zd) zo) (by decide)):=a
def Kh(a:b:=by exact ag.y3 a 230 _ (an .i64 64 λ_=>0)):=a
def Mu(a:b:=by unfold lK;split;exact d;split;exact a;exact c):=a
def MC(a:b:=by simpa using⟨λg j n=>k (ca.2 ⟨(h,g,j),n,rfl⟩),d.d⟩):=a
def NA(a:b:=by show(i7 _ _ _ _ _ _ _ _ _).length=16/2*(a/2);rw[Fl,eF]):=a
def NC(a:b:=by match j,k with|0,_=>rfl|1,_=>rfl|2,_=>rfl|3,_=>rfl|4,_=>rfl):=a
def Pw(a:b:=by unfold eb my;simp only[M o,f,show¬((2:Int)=1) by decide,k2,eB,ae h,m,oF];rfl):=a
def Px(a:b:=by unfold eb my;simp only[M o,f,show¬((2:Int)=1) by decide,k2,eB,M h.1,ae h.2,m,oF];rfl):=a
def Py(a:b:=by unfold eb my;simp only[M o,f,show¬((2:Int)=1) by decide,k2,eB,M h.1,M h.2,m,oF];rfl):=a
def PE(a:b:=by rw[aZ];have:=B' a f d;have:=zw.out;omega):=a
def QG(a:b:=by match E,zs with|0,_=>rfl|1,_=>rfl|2,_=>rfl|3,_=>rfl|4,_=>rfl|5,_=>rfl|6,_=>rfl|7,_=>rfl):=a
def OR(a:b:=by unfold eb my;simp only[M E,h,show¬((2:Int)=1) by decide,k2,eB,ae I,W,oF]<;>rfl):=a
def OS(a:b:=by unfold eb my;simp only[M E,h,show¬((2:Int)=1) by decide,k2,eB,M I.1,ae I.2,W,oF]<;>rfl):=a
def OT(a:b:=by unfold eb my;simp only[M E,h,show¬((2:Int)=1) by decide,k2,eB,M I.1,M I.2,W,oF]<;>rfl):=a
def Qb(a:b:=by rw[dw A];unfold nt;rw[M (by omega)]):=a
def QO(a:b:=by rw[df.1 f];exact .inr ((b.h.n _ (bS (i:=1) rfl)).resolve_left (by simp))):=a
def Rx(a:b:=by obtain⟨_,_,_,_,_,_,b,_⟩:=b;exact b.aa):=a
def R1(a:b:=by rw[(e.out.S b.aa (by simp)).au,afk,g.out]):=a
def TB(a:b:=by rw[l3,M (by omega),M (by omega),M (by omega),M (by omega)]):=a
def Sg(a:b:=by have:=q.out;have:=i.out;simp only[aZ,cz,dv];omega):=a
def T5(a:b:=by rw[df.1 w];exact⟨d.out.2.2.2.1,by simp[O,x]⟩):=a
def Up(a:b:=by rw[show(al e c).toList.length=5 from rfl];omega):=a
def Uu(a:b:=by obtain⟨⟨j,zt⟩,_⟩:=k.l;have:=zt.lt;omega):=a
def Ux(a:b:=by simp only[aJ,M (show¬c=b by omega)]):=a
def Qi(a:b:=by simp only[lq,bu]at I;exact I _ (.inl rfl)):=a
def UT(a:b:=by unfold cc;rw[ae (show(gB d j i).s=3 from rfl)]):=a
def U7(a:b:=by have:=zaa.out;simp only[aZ,cz,dv];omega):=a
def Vl(a:b:=by simp only[cj,ee,Jp,List.sum_nil];omega):=a
def VE(a:b:=by unfold c6.e5;rw[zs.out,M (by omega)];exact zJ):=a
def VF(a:b:=by have:=(O.out.t.ad (E G z)).row a zH;rw[<-za2.out.2]at this;exact this):=a
def VG(a:b:=by rw[zI.out.2.2.2.1];exact(O.out.f.ok a zH).2.1):=a
def VH(a:b:=by rw[zI.out.2.2.2.2];exact(O.out.f.ok a zH).2.2):=a
def VI(a:b:=by have:=(O.out.t.ad (E G z)).row l zS;rw[zbx.out l (by have:=zR.out;have:=zY.out;omega) (by omega)]at this;exact this):=a
def Nt(a:b:=by rw[ox,(ag.aP _ _ _).au];simpa using k):=a
def PN(a:b:=by rw[gK,show mz g f h a=[] by unfold mz;rw[ae r],eG];exact b):=a
def PR(a:b:=by rw[zC.out];exact b.au 1 _ rfl (PJ a 0 A (by decide))):=a
def PS(a:b:=by rw[zL.out,show 5+a*2=4+a*2+1 by omega];exact b.au 1 _ rfl (PJ a 1 A (by decide))):=a
def SS(a:b:=by have:=G.out;have:=u.out;unfold maxLen;omega):=a
def rC(a:b:=by go_ret;exact⟨aX Ending.returned (aX Value.bool (qL (λi=>by unfold et at i;simp only at i;omega)).symm),k⟩):=a
def ft(a:b:=by
 go_wp2_with fail
 go_ret;exact⟨rfl,b.aa⟩):=a
def Bl(a:b:=by
 go_wp2_with(first|refine tv rfl rfl ?_|(refine mZ m rfl rfl rfl rfl ?_;intro zG x y zE))
 exact bB (tu rfl x rfl) ⟨Bk,(B).own y Z⟩):=a
def mA(a:b:=by have zC:=n.out.fin b (t:=0) (j:=1) rfl rfl;go_ret;exact⟨rfl,zC.2⟩):=a
def U8(d a:Nat)(c:bj d->bj a->b:=by
 intro zat zbs;rw[zN]at zaf;have zbu:=Y zN;clear zac zd zb zab zaQ zaX za0 zaB zaT zay zaS zN;refine zaf.out.mono ?_;rintro e zbR ⟨F,H,G,rfl,B⟩;clear zaf;replace b:=I1 (b.j5 B.S B.is zaq.out.1 B.ge) zaG.out fL.fg;clear B;generalize bb K F H G=a7 at b;go_wp2_with fail
 refine b.aW (oo _ K a7) ?_;clear b;intro zbC b;go_wp2_with(refine b.aN 3 (al K a7) aB (bo _ _) ?_;clear b;intro zbP b)
 have zan:g.dG=zat:=by unfold bJ.dG;rw[zB.out];rfl
 refine bB (eH rfl aB (b.ai 3 rfl) rfl) ⟨[kv g (cG g i j zat) false D zW,kv g (cG g i j zbs) true D zao],K,a7,rfl,⟨λe=>by rw[zz.out]at e;exact Bool.noConfusion e,λ_=>⟨zW,zao,k,s,by rw[zan];exact zA.out,by rw[zan];exact zag.out,by rw[zan],by rw[zB.out,<-zbu.out];rfl⟩,zaq.out⟩,U,⟨zaE,za5,zaM,zas,zav,zaY,?_,?_,?_⟩⟩
 .have:=UO (b.drop 5) (z'.out.and (fL.fg (r:=K) (y:=a7))) (λzbH zU=>(bc.1 zU).elim (λzU=>bc.2 (.inl (bc.2 (.inl (bc.2 (.inl (bc.2 (.inl (bc.2 (.inl zU)))))))))) λzU=>bc.2 (.inr zU)) ⟨b.q.2.1.1.1.1.1,b.q.2.2⟩;rw[b5]at this;exact this
 .have:=zaI.out;rw[b5]at this;exact this
 .have:=zaL.out;rw[b5]at this;exact this):=c ⟨⟩ ⟨⟩
def xp(a:b:=by exact GN):=a
def Lp(a:b:=by
 go_wp2_with fail
 go_ret;refine⟨aX Ending.returned (aX Value.bool (lD.2 ?_).symm),(k.ad G).ad zr⟩;exact⟨Z,Z,zI.out,Z,Z,zL.out,(λi=>by first|(cases i;done)|exact D.out trivial|exact D.out i),zM.out,Z,Z,Z,Z,Z,Z,Z,Z,zE,zw⟩):=a
def Qc(a:b:=by exact⟨⟨c+1,Z,a8,Y b⟩,bF⟩):=a
def sI(a:b:=by exact⟨⟨d+1,Z,a8,Y b⟩,bF⟩):=a
def nv(a:b:=by exact gJ rfl ⟨_,rfl,λe=>Bool.noConfusion e,b.aa⟩):=a
def Kv(a:b:=by
 cases o<;>simp only[Oper.upon]at this<;>simp only[wj]
 case value I=>exact⟨h _ this.1,this.2⟩
 case skip=>exact⟨h _ this.1,this.2⟩
 case enter Q args=>
  refine this.mono λE s g=>?_;cases E with
  |returned I=>exact⟨I,rfl,h _ g.1,g.2⟩
  |panicked zl=>exact g.elim
  |outgrown=>exact absurd g (by rintro⟨_,_,a⟩;exact a)
 case row row args=>exact this.mono λI s g=>⟨h _ g.1,g.2⟩
 case defer C=>
  have n:=aX Act.defers this.1;have q:∀(A:Act)(k:Qas),(A.put e.dst k).defers=A.defers:=λA k=>by unfold Act.put;split<;>rfl
  rw[q,q]at n;exact absurd (aX List.length n) U):=a
def OB(a:b:=by
 refine .ss ⟨d.aa.trans C I,λh w=>?_,by rw[E];exact d.h.d,λh w=>?_⟩ D.w (λo l=>?_) λo l=>?_
 .obtain⟨j,r⟩:=Bc w;by_cases g:t=j
  .subst g;rw[sh (e8.1 e).1]at r;cases r
   exact D.ja
  .rw[qT g]at r;exact(d.h.b _ (bS r)).S C (ak j h r g)
 .rcases ud w with w|rfl
  .exact d.h.n h w
  .exact d.h.n (aA,378,i) (bS e)
 .rw[E];rcases G o l with z|z
  .exact d.a.d o z
  .intro x;obtain⟨h,w,rfl⟩:=ca.1 x;exact absurd (d.lt w) Z
 .rcases G o l with z|z
  .exact d.a.n o z
  .exact .inr Z):=a
def O8(a:b:=by
 refine⟨h.aa.trans r λd zs=>?_,λze o=>?_,?_,λze o=>?_⟩
 .rw[df.1 zs];exact h.n (zr,A,zz) U
 .exact O4
 .exact O5
 .exact O6):=a
def Lo(a:b:=by
 go_wp2_with fail
 go_ret;exact⟨aX Ending.returned (aX Value.bool (qL (λi=>by unfold et at i;simp only at i;rw[zw]at i;simp at i)).symm),(k.ad G).ad zr⟩):=a
def Ln(a:b:=by
 go_wp2_with fail
 go_ret;exact⟨aX Ending.returned (aX Value.bool (qL (λi=>by unfold et at i;simp only at i;rw[zE]at i;simp at i)).symm),(k.ad G)⟩):=a
def Ar(a:b:=by
 have zU:¬ky num c:=by simpa using C
 go_wp2_with fail
 go_ret;exact⟨aX Ending.returned (aX Value.bool (qL (λi=>zU i.2.2.2.2.2.2.2.1)).symm),k⟩):=a
def Fv(a:b:=by
 go_wp2_with fail
 exact⟨⟨b+1,Z,a8,H.out,F.out,zA.out,z.out⟩,bF⟩):=a
def Ca(a:b:=by rcases(by omega:h=0\/h=1\/h=2)with rfl|rfl|rfl<;>rfl):=a
def we(a:b:=by
 go_wp2_with fail
 exact⟨⟨b+1,Z,a8,C,m,q.out⟩,bF⟩):=a
def RL(a:b:=by
 have a:=ao.nil [] c;go_in;go_wp2_with(first|(refine a.aI _ (a1 d) ?_;intro l i a)|(refine a.aI _ (a1 b) ?_;intro q p a;have r:=a.ah 1 1;have m:=a.ah 0 1;have s:=a.ah 1 0;have n:=a.ah 0 0;have k:=a.ah 1 2;have g:=a.ah 0 2;have j:=a.ah 1 3;have t:=a.ah 0 3;have h:=a.ah 1 4;have o:=a.ah 0 4))
 all_goals go_ret;refine⟨?_,a.aa⟩;simp_all [lZ]):=a
def ya(d a:Nat)(c:bj d->bj a->b:=by intro zS zP;exact bB (eW rfl (kg _ _) (b.ai zS rfl) rfl) ⟨rfl,b.ai zP rfl,b.aa⟩):=c ⟨⟩ ⟨⟩
def JJ(a:b:=by
 rw[M b];by_cases e:a<P
 .rw[ae e,ae Z]
 .rw[M e,M Z]):=a
def GA(a:b:=by
 rw[M b];by_cases f:a<d
 .rw[ae f,ae Z]
 .rw[M f,M Z]):=a
def Bd(a:b:=by
 apply oM;intro j;by_cases g:t=j
 .subst g;rw[fx,sh (e8.1 e).1,fx,e];rfl
 .rw[fx,qT g,fx]):=a
def Mb(a:b:=by
 have i:=ag.aP b 71 (al a c);go_in;go_wp2_with(refine hA aB i rfl rfl rfl ?_)
 refine h.out.mono ?_;rintro d n ⟨rfl,k⟩;have l:=Y ((V.refl [] b).alloc _|>.ad k);have j:=i.S k U;have m:=j.au 0;have zj:=j.au 1;simp only[al,b4,dt,dY]at m zj;go_wp2_with fail
 go_ret;exact⟨rfl,l.out⟩):=a
def Ky(a:b:=by exact⟨⟨c+1,Z,a8,aX (Value.int IntKind.i64) zh.out,j.drew⟩,bF⟩):=a
def A7(c:a)(f:d)(e:a->d->b:=by
 intro za6 za7;go_roundw
 .exact⟨d+1,Z,a8,za6,za7⟩
 .simp[intOf];omega):=e c f
def Ej(a:b:=by
 go_wp2_with fail
 exact⟨⟨d+1,Z,a8,y.out,x.out,q.out⟩,bF⟩):=a
def xB(c:Nat)(a:bj c->b:=by intro zh;exact bB (eH rfl dC (a.ai zh rfl) rfl) ⟨b,c,d,rfl,l,j,k,a.aa⟩):=a ⟨⟩
def akP(d:Nat)(c:bj d->b:=by intro zbf;have za:=zK.out c d y.1.1.1;have zZ:=zA.out;have zaR:=zC.out;have zbw:=za.hw;have zbL:=za.kV;have zaP:=zZ.2.1.gG;exact za.s3 zz.out (c:=zbf) R true y.2 k l y.1.2 (.inr ⟨zZ.2.1.toOk,by rw[zZ.2.2.1,zaR.2.1];exact zbw,by rw[zZ.2.2.2.1,zaR.2.2];omega⟩) (λ_=>Z) (y.1.2.fv zZ.2.1.toOk)):=c ⟨⟩
def Ew(a:b:=by unfold Oper.wp execOp;simp only[l,resolve,invoke,builtin,eS,iW,gl,gm,cj,ee,k,h,run_max_int2,n];exact j _ _ d):=a
def Mv(a:b:=by have l:=qR (P:=prog) (w:=c) .i64 (b:Int) a .sliceAcap Z Z;obtain⟨x,i,m⟩:=AU g;have j:¬a=0:=Z;simp[Instr.sliceAt,Instr.slice,h7 f,Instr.sliceBounds,sizeOf,typeInfo,i,m,l,j,Addr.add]):=a
def Hw(c:Nat)(a:bj c->b:=by intro C;refine bB (eW rfl en (b.ai C rfl) rfl) ⟨aA,rfl,b.ai 0 rfl,b.aa,(b.h.n _ (bS (i:=0) rfl)).resolve_left U⟩):=a ⟨⟩
def uN(a:b:=by have zx:=q.out.fin b (t:=0) rfl;exact xT rfl zx):=a
def Kr(a:b:=by
 by_cases P:a=k
 .subst P;exact s
 .rw[rH true P]at O;exact O):=a
def MT(a:b:=by
 have zae:=zC.S t aw;go_wp2_with(first|refine nJ r rfl rfl rfl ?_|(refine mZ zae rfl rfl rfl rfl ?_;intro zG x y zE))
 exact bB (tu rfl x rfl) ⟨Bk,J.own y Z⟩):=a
def akQ(d:Nat)(c:bj d->b:=by intro zbr;have za:=zK.out c d y.1;have:=za.s3 zz.out (c:=zbr) R false y.2 bL bR (by have:=za.vD.bs;rwa[za.bs.1,za.bs.2]at this) (.inl rfl) (λe=>Bool.noConfusion e) (by simp[bg,bR]);rwa[<-za.bs.1,<-za.bs.2]at this):=c ⟨⟩
def GS(a:b:=by rcases(by omega:a=0\/a=1)with rfl|rfl<;>rcases(by omega:b=0\/b=1)with rfl|rfl<;>rfl):=a
def Ma(a:b:=by refine UG λg e=>?_;simp[results,n,g,e,asAddr,m.load q,o.load p]):=a
def JW(a:b:=by
 unfold wpList at e;split
 .rename_i zF;rw[ae zF]at e;refine .inl (JM (Oper.wp_mono (λ_ _ e=>e) (e.resolve_right ?_)));rintro⟨_,_,_,W⟩;exact W
 .rename_i zF;rw[M zF]at e;exact e):=a
def Cm(c:Nat)(a:bj c->b:=by intro zS;exact⟨zS,b,c,d,Z,rfl,⟨l,j,k⟩,Y a⟩):=a ⟨⟩
def JK(a:b:=by have q:=l _ _ (j a.heap.size (a.alloc (.cells g p)) (ag.aP _ _ _) ((V.refl _ _).alloc _) (a' _));subst o;unfold Oper.wp execOp;simp only[n,Instr.box,k,newVar,newRow];exact q):=a
def akR(a:b:=by
 rw[ak]at r l;have l:C<b.tmps.size:=by simpa using l
 have:(b.put (some C) I).tmps[C]? =(b.put (some C) v).tmps[C]? :=by rw[r]
 exact .inr (by simpa[Act.put,l]using this)):=a
def Kq(a:b:=by have r:=D h Q F;rw[W,getD_both y]at r;cases r):=a
def K0(a:b:=by
 have b:IntKind.u64.wrap (-a)=18446744073709551616-a:=by simp[IntKind.wrap,IntKind.bits,IntKind.signed];omega
 rw[b];simp[IntKind.wrap,IntKind.bits,IntKind.signed];omega):=a
def AG(a:b:=by
 go_wp2_with fail
 go_ret;exact⟨rfl,rfl⟩):=a
def QV(a:b:=by exact⟨⟨d+1,Z,a8,Y (b.drop 1)⟩,bF⟩):=a
def DL(a:b:=by have q:((g.bytes*e:Nat):Int)<=281474976710656:=Z;rwa[pB]at q):=a
def wb(a:b:=by exact⟨0,Z,rfl,r,o,k⟩):=a
def KX(a:b:=by refine jq i λzh r=>?_;unfold Oper.wp execOp;simp only[n,resolve,invoke,builtin,eS,iW,gl,gm,cj,ee,l,j,run_min_int2,o];exact r _ _ h):=a
def Lr(a:b:=by go_ret;exact⟨aX Ending.returned (aX Value.bool (qL (λi=>by unfold et at i;simp only at i;have:=i.2.2.2.2.2.2.1 trivial;omega)).symm),A⟩):=a
def UR(a:b:=by refine I6 λk=>?_;have:=c.2.2.2.2.2.2.1 k;exact⟨⟨b.ry,Z⟩,Z⟩):=a
def WH(a:b:=by have:=aX List.length ak;simp at this;simp;omega):=a
def y9(a:b:=by exact⟨0,Z,rfl,rfl,V.refl _ _⟩):=a
def O9(a:b:=by
 rcases bu.1 l with rfl|l
 .rcases g with rfl|g
  .exact .inl U
  .exact .inr g
 .exact .inl (ca.2 ⟨k,pv,rfl⟩)):=a
def HC(a:b:=by rw[kw]at this;exact this v xl):=a
def OC(a:b:=by rw[a 0 R,a 1 R,a 2 R,a 3 R,a 4 R,a 5 R,a 6 R,a 7 R]):=a
def RV(a:b:=by exact(w.au (f' _ _ l) U).trans l):=a
def GG(a:b:=by
 go_wp2_with fail
 go_ret;exact⟨a,rfl,zk.1,Z,b.aa⟩):=a
def EE(a:b:=by simp only[Cell.okWide,b]at c;cases v<;>simp_all [Cell.ok]):=a
def Qv(c:Nat)(a:bj c->b:=by intro zL;exact⟨⟨i+1,h,g,e,Z,a8,⟨y,z,A⟩,Y (a.drop zL)⟩,bF⟩):=a ⟨⟩
def OA(a:b:=by
 rcases bu.1 x with A|x
 .exact d.ne t j e r g A.symm
 .exact d.a.d _ x (ca.2 ⟨h,bS r,rfl⟩)):=a
def QN(a:b:=by
 have e:d=p\/d=s\/d=l:=by simpa[bg]using f
 have r:=df.1 r;have:=zo.out;omega):=a
def GD(a:b:=by exact⟨0,0,Z,rfl,rfl,Z,Y b⟩):=a
def EY(a:b:=by unfold execOp;simp only[r,j,eS,this,gl];simp):=a
def Tt(a:b:=by have:=h (139+c) d (by rw[eo];exact(RD c (ht.1 g).1).trans g);rwa[<-gk]at this):=a
def J7(a:b:=by
 intro D f;rcases jn D g with e|e
 .exact b D e
 .obtain rfl:D=g:=Z;exact d):=a
def DS(a:b:=by have:=qw q e;rw[o.1]at this;cases this):=a
def Vn(a:b:=by exact⟨r,R,λq p d=>aE.noConfusion d,λq p d=>aE.noConfusion d⟩):=a
def MR(a:b:=by exact⟨0,Z,rfl,zX,V.refl _ _,by rw[rG];exact zW,rfl⟩):=a
def Ro(a:b:=by have:=pz (n:=2) R f;have e:(2:Nat)^32=4294967296:=rfl;omega):=a
def PZ(a:b:=by
 rcases b with rfl|rfl
 .exact⟨false,rfl,rfl⟩
 .exact⟨true,rfl,rfl⟩):=a
def Ka(a:b:=by rw[show(b*8+a)/8=b from Z,show(b*8+a)%8=a from Z]):=a
def GN(a:b:=by have zx:=q.out.fin b (t:=0) rfl;exact jw (jW rfl _ _ _) rfl zx):=a
def O5(a:b:=by
 simp only[cj,jJ];refine⟨λB=>?_,ak.2⟩;rcases g with rfl|g
 .exact ak.1 B
 .obtain⟨ze,o,zy⟩:=ca.1 B;have:=h.lt (d:=ze) (by simp[o]);omega):=a
def O6(a:b:=by
 rcases bu.1 o with rfl|o
 .rcases g with rfl|g
  .exact h.n (I,A,zz) U
  .exact .inr (b7 h.size g)
 .exact h.n ze (by simp[o])):=a
def O4(a:b:=by
 rcases bu.1 o with rfl|o
 .exact t
 .exact(h.b ze (by simp[o])).S r λB=>ak.1 (by rw[<-df.1 B];exact ca.2 ⟨ze,o,rfl⟩)):=a
def Eh(a:b:=by
 go_wp2_with fail
 go_region;all_goals go_wp2_with fail
 exact Ky):=a
def Mn(a:b:=by
 have zz:=Y (x.out.drew.trans O (b3.refl _ _));clear A O;go_wp2_with fail
 exact A7 zi zz):=a
def akS(a:b:=by refine J k ok zj zm ?_ zi;exact Kr):=a
def akT(a:b:=by
 have n:=df.1 n;rcases Q d f with k|k
 .exact zx d k n
 .omega):=a
def akU(a:b:=by
 rcases Q d f with k|k
 .exact I d k
 .exact .inr (b7 b.size k)):=a
def Lf(a:b:=by
 have zJ:decide (65536<c)=true:=by simpa using I
 go_wp2_with fail
 exact rC):=a
def Lh(a:b:=by
 have zP:decide (16777216<d)=true:=by simpa using O
 go_wp2_with fail
 exact rC):=a
def Lj(a:b:=by
 have zl:decide (8388608<e)=true:=by simpa using za
 go_wp2_with fail
 exact rC):=a
def Lg(a:b:=by
 have zN:decide (d<1)=true:=by simpa using L
 go_wp2_with fail
 exact rC):=a
def Li(a:b:=by
 have zK:decide (e<1)=true:=by simpa using P
 go_wp2_with fail
 exact rC):=a
def NG(c:a)(d:a->b:=by intro A;refine(A _).mono ?_;rintro e H ⟨rfl,I⟩;replace b:=b.aS I;clear k;exact ft):=d c
def Ll(a:b:=by
 have zf:decide (2*num*e<3*c*d+32*num)=true:=by simpa using zc
 go_wp2_with fail
 exact rC):=a
def Le(a:b:=by
 have zO:decide (1048576<num)=true:=by simpa using H
 go_wp2_with fail
 exact rC):=a
def Ld(a:b:=by
 have zH:decide (num<1)=true:=by simpa using J
 go_wp2_with fail
 exact rC):=a
def hD(d:a)(f:c)(e:a->c->b:=by intro zaj zaq;refine(zaj _).mono ?_;rintro e o ⟨rfl,m⟩;replace b:=b.aS m;revert o m b;exact zaq):=e d f
def G1(a:c)(d:c->b:=by intro zb1;intro zr zV z7 z6 zU;have zz:=km zU (za:=zaR.heap.size) U;simp only[az];revert zr zV z7 z6 zU zz;exact zb1):=d a
def qJ(a:c)(d:c->b:=by intro zab;refine Ey ?_;exact zab):=d a
def x6(a:Nat)(e:c)(d:bj a->c->b:=by
 intro zd ze;refine a _ _ (λ_=>g) ?_;try simp only[az]
 refine tD (a:=zd) bm rfl λf a=>?_;revert f a;exact ze):=d ⟨⟩ e
def oV(a:c)(d:c->b:=by intro zj;rintro e H ⟨rfl,G,l,x,A⟩;replace b:=b.kJ l x A;revert H G l x A b;exact zj):=d a
def I9(a:c)(d:c->b:=by intro zbb;have zF:=b.cl 2 140 (v:=.slice (some ⟨zl,zf,none⟩) g.n g.IY) (g:=by exact(iv 5).trans (aX (λm=>some (Value.slice m g.n g.IY)) zaj.out));have zJ:=b.cl 2 153 (v:=X g.fst) (g:=by exact iv 18);have zG:=b.cl 2 137 (v:=.bool g.dj) (g:=by exact iv 2);have zH:=b.cl 2 136 (v:=.bool g.aH) (g:=by exact iv 1);have zI:=(z7.out _ b.aa).2;replace b:=b.bd;refine rg [] [0,1,2,3,4,5,6,7,8,9,10,11,12,13,14,15,16,17,18,19,20,21,22,23,124,225] ?_;refine Xe ?_;refine rf (a1 (gB g i j)) ?_;simp only[az];refine b.sv (a1 ⟨0,0,0,false,false,false⟩) xF ?_;revert zF zJ zG zH zI b;exact zbb):=d a
def pR(a:c)(d:c->b:=by intro zao;refine xu 0 λz C=>?_;revert z C;exact zao):=d a
def wS(a:c)(d:c->b:=by intro zN;refine tX λA B z r zc=>?_;revert A B z r zc;exact zN):=d a
def xA(a:c)(d:c->b:=by intro zaR;refine By λB zH zG zI zL=>?_;replace b:=b.kE zL;refine ax ?_;revert B zH zG zI zL b;exact zaR):=d a
def sN(a:c)(d:c->b:=by intro zaj;intro l k K E b n;simp only[dZ,cU]at b;refine h _ _ ?_;refine ax ?_;revert l k K E n b;exact zaj):=d a
def uB(a:c)(d:c->b:=by intro zbe;rintro e I ⟨rfl,u⟩;refine⟨_,rfl,u,?_⟩;replace b:=b.aS u;revert I u b;exact zbe):=d a
def akV(a:c)(d:c->b:=by intro zy;have z:wr.cell? ⟨r,0,none⟩=some (.int .i64 (h:Int)):=E.au 0;have y:wr.cell? ⟨r,1,none⟩=some (.int .i64 (f:Int)):=E.au 1;revert z y;exact zy):=d a
theorem MS(a:c)(d:cZ c->b:=by intro zad;have ak:decide ((b:Int)<64)=true:=aw;have zr:=zV b h;have zl:=zY b h;have I:8<=e b/\e b<=255:=⟨n b h,zl.2⟩;have zd:=Ak I zs h;have L:=(zZ.S t aw).au b;rw[dw h]at L;have O:=(z6.S t aw).au b;rw[dw h]at O;have zb:=r.au b;rw[dw h]at zb;have zk:=r.eA b;have K:=zC.S t aw;have zp:∀k,dU wr k->k.cell? ⟨zn,b,none⟩=some (.int .i64 (d b)):=λk zI=>zI.au L;have zm:∀k,dU wr k->k.cell? ⟨z1,b,none⟩=some (.int .u8 (e b)):=λk zI=>zI.au O;have zq:=oJ d b h;revert ak zr zl I zd L O zb zk K zp zm zq;exact zad.out):b:=d ⟨a⟩
def DT(a:c)(d:c->b:=by
 intro zl;have r:=o.2 a (qw q e);obtain⟨s,g,z,D⟩:=mem_ready.1 q;have E:∀h∈g.after,Region.binds j h=true->h.on≠l:=λh Q F W=>by exact Kq
 have B:=wpOp_putIf z (J a g z e s E) (λi A=>tl K l za i A u) (λi A=>tl K a g i A z) (λ_ _ _ w=>w) p r;revert r s g z D E B;exact zl):=d a
def CV(a:c)(d:c->b:=by intro zaR;refine yq λm o y=>?_;replace b:=b.bd;revert m o y b;exact zaR):=d a
theorem Kj(a:c)(d:cZ c->b:=by intro zQ;refine El λE D=>?_;have y:=Y ((C.ad j).setCell (d:=⟨l,8*b+d,none⟩) (.inr (by have:=H.out;show _<=l;omega)) (X n));have x:=Y ((m.ad j).setCell (d:=⟨l,8*b+d,none⟩) (.inl U) (X n));revert E D y x;exact zQ.out):b:=d ⟨a⟩
def wq(a:c)(d:c->b:=by intro zaP;have O:∀(zd:Fn)(first bH:Qad)(f:N),(Instr.makeFunc zd first bH).run prog f=.ok (.func zd first bH) f:=λ_ _ _ _=>rfl;revert O;exact zaP):=d a
theorem Lk(a:c)(d:cZ c->b:=by
 intro zR;have zl:decide (8388608<e)=false:=by simpa using za
 have zs:e<=8388608:=Z;have z1:0<=num*e/\num*e<=1048576*8388608:=rY Z Z;have zaa:0<=c*d/\c*d<=65536*16777216:=rY Z Z;have zW:2*num*e=2*(num*e):=qO _ _ _;have z':3*c*d=3*(c*d):=qO _ _ _;have zv:0<=2*num*e/\2*num*e<=2*(1048576*8388608):=Z;have zB:0<=3*c*d/\3*c*d<=3*(65536*16777216):=Z;clear z1 zaa zW z';revert zl zs zv zB;exact zR.out):b:=d ⟨a⟩
theorem Ml(a:c)(d:cZ c->b:=by
 intro zB;obtain⟨e,m⟩:∃e,e=d*c:=⟨_,rfl⟩;obtain⟨i,o⟩:∃i,i=(d+1)*c:=⟨_,rfl⟩;obtain⟨p,n⟩:∃p,p=d*f:=⟨_,rfl⟩;obtain⟨g,t⟩:∃g,g=h+p:=⟨_,rfl⟩;have ze:(d:Int)*(c:Int)=(e:Int):=by rw[m];push_cast;rfl
 have za:((d:Int)+1)*(c:Int)=(i:Int):=by rw[o];push_cast;rfl
 have P:(d:Int)*(f:Int)=(p:Int):=by rw[n];push_cast;rfl
 have J:(h:Int)+(p:Int)=(g:Int):=Z;have w:i=e+c:=by rw[m,o,ia]
 revert e m i o p n g t ze za P J w;exact zB.out):b:=d ⟨a⟩
theorem Tq(a:c)(d:cZ c->b:=by intro zaj;refine(abZ _ e za.out).mono ?_;rintro K zr ⟨t,rfl,I,P,ze⟩;replace b:=(b.plus (zy:=[t]) P (by simpa using ze) (by simpa using O' I) I λ_ _ _ n x p=>p.S n (x _ U)).ha (zu:=λk=>lW e 4 t k/\aT k l r) (t::bg r) (by grind) ⟨I,by have:=b.q.2;exact this.ad P⟩ λ_ _ _ n x p=>⟨p.1.S n (x _ U),p.2.S n λd f=>x d jT⟩;revert zr t I P ze b;exact zaj.out):b:=d ⟨a⟩
def QJ(a:c)(d:c->b:=by
 intro zI;have x:=Y λc=>P8 c h g n;have B:=Y λc=>show Calls prog 77 #[an .u8 64 a.a] c λl H=>l=.returned (.bool true)/\V [] c H by have:=wo c a.a;rwa[z.1]at this
 have y:=Y λc=>show Calls prog 77 #[an .u8 64 a.b] c λl H=>l=.returned (.bool true)/\V [] c H by have:=wo c a.b;rwa[C.1]at this
 have D:=Y λc=>BB c e s.1 s.2;revert x B y D;exact zI):=d a
def B7(a:Nat)(e:c)(d:bj a->c->b:=by intro zL zM;replace b:=b.bd;refine rg [] [0,1,2,3,4,5,6,7,8,9,10,11,12,13,14,15,16,17,18,19,20,21,22,23,24,25,zL,27] ?_;revert b;exact zM):=d ⟨⟩ e
def Aq(a:c)(d:c->b:=by intro zT;rintro l Q ⟨rfl,E⟩;have h:=g.S E U;have k:=A.ad E;obtain⟨o,m,z,n,B,u,r⟩:=h.aQ;revert Q E h k o m z n B u r;exact zT):=d a
theorem SM(a:c)(d:cZ c->b:=by intro zj;have t:=Y O;have x:=Y zc;have r:=Y za;refine aG (16*o) λe A=>?_;refine aG (16*s) λf B=>?_;have u:=λd(zk:(c.G d).Ok)(zi:aT a (c.G d) (c.Q d))=>agi W P zk zi zb Q;rw[A,B]at u;have G:e<=64:=Z;have I:f<=64:=Z;have J:16*(o:Int)=(e:Int):=Z;have F:16*(s:Int)=(f:Int):=Z;revert t x r e A f B u G I J F;exact zj.out):b:=d ⟨a⟩
def xH(a:Nat)(e:c)(d:bj a->c->b:=by intro zZ z1;have P:=b.cl zZ 4 (v:=.bool a.b8) (g:=by simp[ay,cO,da]);revert P;exact z1):=d ⟨⟩ e
def Eg(a:c)(d:c->b:=by intro zK;have t:a.heap.size<a.heap.size+1:=m' _;have p:a.heap.size+1<a.heap.size+2:=m' _;have G:a.heap.size<=a.heap.size:=a' _;revert t p G;exact zK):=d a
theorem QS(a:c)(d:cZ c->b:=by
 intro zx;have I:16<=a.W/\a.W<=64:=⟨m.aQ.v.1,m.aQ.v.2.1⟩;have p:=Y (show g<=4 from Z);have pU:cc a f/16<=4:=by have:=m.aQ.v.2.2.2.1;have:=m.aQ.v.2.2.2.2.1;unfold cc;split<;>omega
 have C:=y.1;have E:=y.2;have F:=t.1;have J:=t.2;revert I p pU C E F J;exact zx.out):b:=d ⟨a⟩
theorem QM(a:c)(d:cZ c->b:=by intro zA;rintro e F ⟨l,w,rfl,A,C,n,P⟩;refine⟨_,rfl,n,?_⟩;have W:=b.size;have Q:=n.size;replace b:=b.aS n;refine lv ?_;have D:∀d,d=p\/d=s\/d=l->c.heap.size<=d:=λd f=>Z;revert F l w A C n P W Q b D;exact zA.out):b:=d ⟨a⟩
theorem MG(a:c)(d:cZ c->b:=by
 intro k;refine aG ((if(0:Int)>v then 0 else v)) λc e=>?_;refine aG ((b:Int)-1) λd j=>?_;have i:(if d<c then d else c)=(eP v b:Int):=by unfold eP;rw[<-e,<-j];(repeat' split)<;>omega
 have g:=Y e;have h:=Y i;revert c e d j i g h;exact k.out):b:=d ⟨a⟩
def Aj(a:Nat)(e:c)(d:bj a->c->b:=by intro k l;have d:(prog.info? k).isSome=true:=ar;obtain⟨b,a⟩:=tm.1 d;revert d b a;exact l):=d ⟨⟩ e
theorem Km(a:c)(d:cZ c->b:=by intro D;have n:k%100=k:=r0 w;have h:k/100=0:=rZ w;have i:k∈Region.ready j c a:=rJ;obtain⟨z,s,y,-⟩:=mem_ready.1 i;have m:nth g k=some s:=D1;revert n h i z s y m;exact D.out):b:=d ⟨a⟩
theorem IL(a:c)(d:cZ c->b:=by
 intro zan;have zk:(c:Int)<(bK:Int):=Z;have s:c<2:=by have:=zf.out;omega
 have zz:(c:Int)<2:=Z;revert zk s zz;exact zan.out):b:=d ⟨a⟩
def GW(a:c)(d:c->b:=by intro zaT;have W:∀s,_:=λs=>GU f a A s;rw[show(f (1+a) !=0)=true from pT]at W;have w:=b.ah 0 13;revert W w;exact zaT):=d a
theorem O3(a:c)(d:cZ c->b:=by
 intro zn;obtain⟨i,t,u⟩:=uI O;have ak:=h.d;simp only[cj,jJ]at ak;have g:I=zr\/a.heap.size<=I:=by simpa[dL,Value.ownBlock]using g
 have r:V [zr] a j:=by simpa[dL,Value.ownBlock]using r
 revert i t u ak g r;exact zn.out):b:=d ⟨a⟩
def No(a:c)(d:c->b:=by intro zak;have K:=V.own O Q W;refine(M6 _ c g b.c ⟨k.1,k.2.1⟩).mono ?_;rintro h zl ⟨rfl,H⟩;have F:=za.S H U;have o:=K.ad H;have s:=m.ad o;have n:=J.S o U;revert K zl H F o s n;exact zak):=d a
def y5(a:c)(d:c->b:=by intro h;refine⟨aX Ending.returned (aX (Value.int IntKind.i64) ?_),rfl⟩;exact h):=d a
def MQ(a:c)(d:c->b:=by intro zaf;refine(wo _ e).mono ?_;rintro u zL ⟨rfl,p⟩;have B:=za.ad p;have w:=ze.S p U;have G:=i.S p U;have m:=zt.S p U;have zD:=p.size;revert zL p B w G m zD;exact zaf):=d a
def Nn(a:c)(d:c->b:=by intro zag;have y:V [] a r:=zD.ad (V.own zr l zC);refine(Z0 _ c zz _ C e i (I.out.ad y)).mono ?_;rintro h u ⟨rfl,x⟩;have j:=y.ad x;have B:=zb.S x U;revert y u x j B;exact zag):=d a
def Bp(a:c)(d:c->b:=by intro zE;refine(ZR _ c g).mono ?_;rintro h r ⟨rfl,l⟩;revert r l;exact zE):=d a
theorem PP(a:c)(d:cZ c->b:=by
 intro zaI;have zd:∀t,t<2->-63<=bn f h a (4+a*2+t)/\bn f h a (4+a*2+t)<=63:=λt za4=>by rw[GQ f h a t za4];exact zT.out.v _ Z Z
 revert zd;exact zaI.out):b:=d ⟨a⟩
def Un(a:Nat)(e:c)(d:bj a->c->b:=by intro zaw zaU;refine b.fw zaw aB ?_;simp only[az];refine b.fw 0 aB ?_;refine pk ?_;refine hh (aL:=an .u8 64 a.s.b) (gp _) (zd.out.S b.aa U) agZ rfl rfl rfl ?_;simp only[az];exact zaU):=d ⟨⟩ e
def QP(a:c)(d:c->b:=by
 intro x;have e:=Y λc=>show Calls prog 39 #[ay a] c λh f=>h=.returned (.bool true)/\V [] c f by have:=wv c a d.aQ.i;rwa[lD.2 d.aQ.v]at this
 revert e;exact x):=d a
theorem Mt(a:c)(d:cZ c->b:=by intro zT;have W:=Y (λa=>E0 c t f a l m q u);have F:=Y (λa=>Y6 a c.w l m h i f.fH BD BE w);revert W F;exact zT.out):b:=d ⟨a⟩
def I6(a:c)(d:c->b:=by intro A;have k:=b.b8.resolve_right (λn=>by rw[l]at n;exact Bool.noConfusion n.1);revert k;exact A):=d a
theorem Ku(a:c)(d:cZ c->b:=by
 intro z;have h:∀I:Qas,b.put e.dst I=b.put e.dst v->e.dst=none\/I=v:=by
  intro I r;cases ak:e.dst with
  |none=>exact .inl rfl
  |some C=>exact akR
 revert h;exact z.out):b:=d ⟨a⟩
def SK(a:c)(d:c->b:=by intro zl;simp only[az];refine b.sv (#[.slice none 0 0,X 0,X 0,X 0,X 0,.slice none 0 0,.slice none 0 0,.slice none 0 0]) Ie ?_;intro w H b;simp only[az];revert w H b;exact zl):=d a
theorem Lm(a:c)(d:cZ c->b:=by
 intro zab;have zf:decide (2*num*e<3*c*d+32*num)=false:=by simpa using zc
 have zo:3*c*d+32*num<=2*num*e:=Z;revert zf zo;exact zab.out):b:=d ⟨a⟩
theorem Ng(a:c)(d:cZ c->b:=by
 intro k;have e:(a.drop (d+1)).isEmpty=decide (a.length<=d+1):=by
  cases ak:a.drop (d+1)with
  |nil=>exact WH
  |cons D f=>exact WH
 revert e;exact k.out):b:=d ⟨a⟩
theorem UG(a:c)(d:cZ c->b:=by
 intro s;have g:b[K]?.getD undef=ab h:=by simpa using l
 have e:b[d]?.getD undef=.pointer (some ⟨zf,0,none⟩):=by simpa using j
 revert g e;exact s.out):b:=d ⟨a⟩
def H9(a:Nat)(e:c)(d:bj a->c->b:=by intro zx zy;refine tD (a:=zx) bm rfl λf a=>?_;revert f a;exact zy):=d ⟨⟩ e
def U4(a:c)(d:c->b:=by intro zbx;rintro e zar ⟨zW,k,l,rfl,zx,zy⟩;refine⟨_,rfl,?_⟩;simp only[az];refine Dq λzh zn zi zk zj zo b zm zp zA zq zr=>?_;have zL:=Y (zO.out.and (fL.fg (r:=k) (y:=l)));clear zy zx zm zp;simp only[dZ,cU]at b;refine ax ?_;revert zar zW k l zh zn zi zk zj zo zA zq zr zL b;exact zbx):=d a
def vh(a:c)(d:c->b:=by
 intro zc;refine a _ _ (λ_=>g) ?_;try simp only[az]
 exact zc):=d a
def sD(a:c)(d:c->b:=by intro zar;rintro e D ⟨rfl,zf,zl,J,L⟩;refine⟨_,rfl,?_⟩;replace b:=b.kJ zl J L;revert D zf zl J L b;exact zar):=d a
def tX(a:c)(d:c->b:=by intro zU;refine tY λs G u p Q=>?_;revert s G u p Q;exact zU):=d a
def xI(a:Nat)(e:c)(d:bj a->c->b:=by intro zal zak;have j:=b.cl zal 0 (v:=X a.W) (g:=by simp[ay,cO,da]);revert j;exact zak):=d ⟨⟩ e
def E5(a e:Nat)(f:c)(d:bj a->bj e->c->b:=by intro zw zG zM;refine rg [] [0,1,2,3,4,5,6,7,8,9,10,11,12,13,14,15,16,17,zw,19,zG] ?_;exact zM):=d ⟨⟩ ⟨⟩ f
def ur(d:a)(f:c)(e:a->c->b:=by intro zB zC;refine(zB _).mono ?_;rintro e J ⟨rfl,z⟩;replace b:=b.aS z;revert J z b;exact zC):=e d f
def Sf(a:c)(d:c->b:=by intro zy;have x:=b.cl 1 0 (v:=X a.first) (g:=by exact afA);have I:=b.cl 1 1 (v:=X a.last) (g:=by exact afB);have O:=b.cl 1 137 (v:=X a.head.t) (g:=by exact afC);have D:=b.ah 2 2;replace b:=b.bd;refine rg [] [0,1,2,3,4,5,6,7,8,9,10,11,12,213] ?_;refine D8 ?_;refine rf (#[X a.first,X a.last,X a.head.t,X e.b1,X (-1),X 0]:Qad) ?_;refine ax ?_;refine b.ik 0 (#[X a.first,X a.last,X a.head.t,X e.b1,X (-1),X 0]:Qad) (dc g ⟨a.first,a.last,a.head.t,e.b1,-1,0,a.head⟩) afz fy ?_ (s:=by exact afF) (e:=0) (u:=by rw[lj];exact c9 rfl);revert x I O D b;exact zy):=d a
def xr(d:a)(f:c)(e:a->c->b:=by intro zan zak;refine(zan _ (p.out.S b.aa n.out)).mono ?_;rintro e K ⟨rfl,E⟩;replace b:=b.aS E;revert K E b;exact zak):=e d f
def DU(a:c)(d:c->b:=by
 intro zf;have C:∀k ok,c[k]? =some ok->k≠l->(b.setIfInBounds a true).getD k true=false->(∀h∈ok.after,Region.binds j h=true->h.on≠l)->za.apart c ok=true:=λk ok zj zm O zi=>by exact akS
 revert C;exact zf):=d a
def Gu(a:c)(d:c->b:=by intro zP;rintro e o ⟨rfl,zB,m⟩;replace b:=zB.again (b.aa.trans m (b3.refl _ _));clear zB m;revert o b;exact zP):=d a
def A5(a:c)(d:c->b:=by intro zbc;refine A6 λx s=>?_;revert x s;exact zbc):=d a
def Tp(a:c)(d:c->b:=by
 intro zap;have zj:=Y λc=>show Calls prog 118 #[ay j,a1 h] c λK zaB=>K=.returned (X e)/\V [] c zaB by have:=Cq c j h u z;rwa[zE]at this
 revert zj;exact zap):=d a
theorem TC(a:c)(d:cZ c->b:=by intro zae;have P:=Y λg(O:c.heap.size<=g)=>show o∉[g]/\(∀d∈bg m,d∉[g])/\2<=g from⟨by have:=s.lt;simp;omega,λd f=>by have:=l.fv C.toOk d f;simp;omega,Uu⟩;revert P;exact zae.out):b:=d ⟨a⟩
theorem Ls(a:c)(d:cZ c->b:=by
 intro zY;have zi:b%32=0:=Z;have W:(b%32 !=0)=false:=by simpa using zi
 have zd:(b%32==0)=true:=by simpa using zi
 have zn:=Y zi;clear zi;have D:ck ((true=true->b%32=0)):=λ_=>zn.out;revert W zd zn D;exact zY.out):b:=d ⟨a⟩
def Cv(a:c)(d:c->b:=by intro zw;have r:=b.off z B;replace b:=av.Ho (b.aS or) l r.1 r.2;revert r b;exact zw):=d a
theorem Od(a:c)(d:cZ c->b:=by
 intro zah;have t:=D.S zh U;have u:=zo.ad zh;have l:m≠d:=by have:=D.lt;omega
 have zf:f.heap.size<=d:=by have:=zo.size;omega
 have G:=Y (zz.out.S u U U);revert t u l zf G;exact zah.out):b:=d ⟨a⟩
theorem Rk(a:c)(d:cZ c->b:=by intro zp;have p:(d:Int)<64:=Z;have n:=oJ (jN false) d m;rw[show jN false d=(a6 false d:Int)from rfl]at n;have h:=(pt false m).1;obtain⟨q,u⟩:=B.out (a6 false d) h;revert p n h q u;exact zp.out):b:=d ⟨a⟩
def MP(a:c)(d:c->b:=by intro zag;have zz:=zu.size;have zJ:=W.size;have zH:=A.size;have zF:=zo.lt;have zB:=zc.lt;have zK:=zt.lt;have ze:=(zo.S W U).S A U;have za:=(zu.ad W).ad A;revert zz zJ zH zF zB zK ze za;exact zag):=d a
theorem El(a:c)(d:cZ c->b:=by intro zT;have E:=K.au (8*b+d);rw[dw Z]at E;have D:=K.eA (8*b+d);revert E D;exact zT.out):b:=d ⟨a⟩
theorem PO(a:c)(d:cZ c->b:=by intro zaN;have zag:(d:Int)<2:=Z;obtain⟨c,zi⟩:∃c,c=f (5+4*a+2*d):=⟨_,rfl⟩;obtain⟨l,zh⟩:∃l,l=f (6+4*a+2*d):=⟨_,rfl⟩;revert zag c zi l zh;exact zaN.out):b:=d ⟨a⟩
theorem QK(a:c)(d:cZ c->b:=by
 intro zJ;have G:∀d∈bg o,d<0\/c.heap.size<=d:=λd f=>by exact akU
 have J:∀d∈bg o,d∉[t]:=λd f n=>by exact akT
 replace b:=b.aS r;revert G J b;exact zJ.out):b:=d ⟨a⟩
theorem FG(a:c)(d:cZ c->b:=by intro zY;have L:=M1 g (a:=b.c) Z;have P:=Fz g (b:=b.d) Z;revert L P;exact zY.out):b:=d ⟨a⟩
theorem UU(a:c)(d:cZ c->b:=by
 intro J;have m:(cG d j i c).s≠3:=by show 1+(c:Int)≠3;omega
 have e:cc d.s (cG d j i c)=d.s.H/2:=by unfold cc;rw[M m]
 have o:=b.aQ.v;revert m e o;exact J.out):b:=d ⟨a⟩
theorem Mk(a:c)(d:cZ c->b:=by intro zK;have E:=zl.out.S x.out aw;refine akV λz y=>?_;have u:wr.cell? ⟨r,2,none⟩=some (.int .i64 (c:Int)):=E.au 2;clear E;revert z y u;exact zK.out):b:=d ⟨a⟩
def SL(a:c)(d:c->b:=by intro zm;intro C b;refine ax ?_;have K:C.cell? ⟨n,140,none⟩=some (.int .i64 c.h.s):=(t.out.S b.aa U).au _|>.trans (by exact h3 1);revert C b K;exact zm):=d a
def xt(d i e l h a f j:Nat)(k:c)(g:bj d->bj i->bj e->bj l->bj h->bj a->bj f->bj j->c->b:=by intro zae zai zaa zac zab zaf zag zad zah;replace b:=b.bd;refine rg [] [0,zae,2,3,zai,5,6,7,8,9,zaa,zac,zab,zaf,zag,15,zad] ?_;revert b;exact zah):=g ⟨⟩ ⟨⟩ ⟨⟩ ⟨⟩ ⟨⟩ ⟨⟩ ⟨⟩ ⟨⟩ k
def By(a:c)(d:c->b:=by intro za6;refine w9 λE t u q ze=>?_;revert E t u q ze;exact za6):=d a
def Ff(d:a)(f:c)(e:a->c->b:=by intro za8 za9;refine(za8 _).mono ?_;rintro e A ⟨rfl,r⟩;replace g:=g.S r U;replace j:=j.S r U;replace k:=k.S r U;have zS:zz.heap.size<=A.heap.size:=r.size;revert A r g j k zS;exact za9):=e d f
def Fc(a:c)(d:c->b:=by intro zaC;refine(zm.out _).mono ?_;rintro e t ⟨rfl,o⟩;replace g:=g.S o U;replace i:=i.S o U;revert t o g i;exact zaC):=d a
def ri(a:c)(d:c->b:=by intro zam;intro F Q r B C;replace b:=b.aP r B C;refine h _ _ B ?_;revert F Q r B C b;exact zam):=d a
def GO(a e:Nat)(f:c)(d:bj a->bj e->c->b:=by intro zan zak zaj;have E:=b.ah 0 zan;replace b:=b.bd;refine rg [] [0,1,2,3,4,5,6,7,8,9,10,11,12,zak] ?_;revert E b;exact zaj):=d ⟨⟩ ⟨⟩ f
def xj(d:a)(f:c)(e:a->c->b:=by intro zy zz;refine(zy _ (h.out.S b.aa U)).mono ?_;rintro e H ⟨rfl,I⟩;replace b:=b.aS I;revert H I b;exact zz):=e d f
theorem Mp(a:c)(d:cZ c->b:=by intro zf;have q:c.w*c.h<=64*64:=eL f.fH f.fr;have o:c.w/2*(c.h/2)<=32*32:=eL BD BE;revert q o;exact zf.out):b:=d ⟨a⟩
def uO(a f d h:Nat)(g:c)(e:bj a->bj f->bj d->bj h->c->b:=by intro zak zal zaj zai zah;replace b:=b.bd;refine rg [] [0,1,zak,zal,zaj,zai,206] ?_;refine ax ?_;revert b;exact zah):=e ⟨⟩ ⟨⟩ ⟨⟩ ⟨⟩ g
def sH(a:c)(d:c->b:=by intro zk;rintro e y ⟨aA,rfl,o,n,m⟩;replace b:=b.aP o n m;revert y aA o n m b;exact zk):=d a
def Am(a:c)(d:c->b:=by intro E;refine Ac (dU k) ar ar dU.refl ?_;exact E):=d a
def Ey(a:c)(d:c->b:=by
 intro zaa;repeat (first|(refine XA rfl ?_;simp only[az])|(refine XB ?_ rfl rfl (λa j zh zac=>?_) ?_;rotate_left;(focus ((go_wp2_with fail)<;>exact zac _ j));simp only[az]))
 exact zaa):=d a
def A6(a:c)(d:c->b:=by intro zbd;rintro e H ⟨rfl,p⟩;refine⟨_,rfl,p,?_⟩;simp only[az];revert H p;exact zbd):=d a
def To(a:c)(d:c->b:=by intro zau;have zi:=Y λc=>aeV c j h u q w z B;have zh:=Y λk(n:V [] c k)=>aeW k j h u q.bp w.bp z B.bp (zd.bp.ad n);revert zi zh;exact zau):=d a
def U2(a:Nat)(e:c)(d:bj a->c->b:=by intro zaC zby;refine UW 5 λq=>?_;replace b:=b.bd;refine rg [] [300,1,2,3,4,5,6,7,8,9,10,15,111,12,13,114,216,17,218] ?_;refine jL ?_;refine I' 2 ?_;refine lv ?_;refine b.fw 4 (lr _ _) ?_;simp only[az];have ak:=(zK.out _ b.aa b.q.2).Dn.2 zz.out;have zt:=Y ak;have zC:=Y (lJ (c:=zaC) ak.1 R);refine bN (sc _ h J zaC ak.1 R (zK.out _ b.aa b.q.2).f) ?_;refine By λE F H G B=>?_;simp only[az];clear ak q;replace b:=I1 (b.j5 B.S B.is zC.out.1 B.ge) z'.out fL.fg;clear B;revert zt zC E F H G b;exact zby):=d ⟨⟩ e
def xu(a:Nat)(e:c)(d:bj a->c->b:=by intro zam zal;have F:=b.ah 0 13;have w:=jx (p.out.S b.aa n.out) zam;revert F w;exact zal):=d ⟨⟩ e
theorem Q0(a:c)(d:cZ c->b:=by
 intro zS;have w:=b.ah 0 13;have ze:=BM (C:=[i]) w (nn n.out.nL);iterate 5 (first|(refine rK rfl ?_;simp only[az])|(refine mf (.inl rfl) rfl rfl rfl ?_;simp only[az])|(refine qB ?_ rfl rfl rfl (λp x q=>?_) ?_;rotate_left;(focus ((go_wp2_with fail)<;>exact q.out));simp only[az])|(refine mg ?_ rfl rfl rfl (λp za zx x q=>?_) ?_;rotate_left;(focus ((have zR:=ze p za;go_wp2_with fail)<;>exact q.out));simp only[az]))
 clear ze;refine el λx q=>?_;refine eI (.bool P) rfl rfl rfl rfl (b.ai 1 rfl) xz rfl rfl ?_;intro K C O zf;revert w x q K C O zf;exact zS.out):b:=d ⟨a⟩
def tY(a:c)(d:c->b:=by intro zT;rintro e J ⟨y,rfl,C,n,P⟩;refine⟨_,rfl,n,?_⟩;revert J y C n P;exact zT):=d a
theorem PF(a:c)(d:cZ c->b:=by
 intro zJ;have s:a 0=1:=by rcases A.out.k with e|e|e;(exact absurd (A.out.pK e (18+d) Z) r);exact e;exact absurd e H
 obtain⟨h,ak⟩:∃h,h=d-3:=⟨_,rfl⟩;have B:h<3:=Z;have zh:(h:Int)<3:=Z;have O:=Y λc=>aax c d Z;rw[<-ak]at O;have P:=PA d zc A.out zp.out (1+h) Z Z;obtain⟨v,y⟩:∃v,v=e0 a f d (1+h):=⟨_,rfl⟩;obtain⟨l,x⟩:∃l,l=bO a d 0:=⟨_,rfl⟩;revert s h ak B zh O P v y l x;exact zJ.out):b:=d ⟨a⟩
def H6(a:c)(d:c->b:=by intro zD;replace b:=b.bd;refine rg [] [300,1,2,3,4,5,106,207,8,9,210] ?_;refine ax ?_;refine gn λj h=>?_;revert b j h;exact zD):=d a
def Cw(a:c)(d:c->b:=by intro O;refine(aet _).mono ?_;rintro e D ⟨f,rfl,p,q,r⟩;replace b:=ao.aeu b p q r;revert D f p q r b;exact O):=d a
def Jd(a:Nat)(e:c)(d:bj a->c->b:=by intro zb3 zb2;obtain⟨zW,zX,zal,zan,zam,zao,b,z8,z'⟩:=K _ _ _ _ _ L;refine⟨_,rfl,aiS zN (b.ai zb3 rfl) zaA,?_⟩;simp only[az];revert zW zX zal zan zam zao b z8 z';exact zb2):=d ⟨⟩ e
def yq(a:c)(d:c->b:=by intro zaQ;have m:=b.h.fv;have o:=b.size;have y:=b.a.l;revert m o y;exact zaQ):=d a
def PW(a:c)(d:c->b:=by intro zbd;refine rg [] [0,1,2,3,4,5,6,7,108] ?_;refine iX ?_;refine hh (aL:=bl g) (cE _) (b.ai 0 rfl) (λj k=>pS) rfl rfl rfl ?_;refine ax ?_;exact zbd):=d a
def QF(a:c)(d:c->b:=by intro zR;have w:=Y λc=>show Calls prog 181 #[.agg (an .i64 8 (e0 a (bn a f 2) 6)),X (a 0)] c λe s=>e=.returned (an .i64 8 (fi a f))/\V [] c s from aay c _ (a 0) j.k;revert w;exact zR):=d a
def G3(a:c)(d:c->b:=by intro zO;have m:=λa=>(nu true false a).1;have o:=λa=>(nu true false a).2;refine jc 3 ?_;revert m o;exact zO):=d a
def U5(a:Nat)(e:c)(d:bj a->c->b:=by intro zaw zbg;have zbi:=b.cl 5 139 (v:=.slice (some ⟨Q,W,none⟩) g.n g.yt) (g:=by exact(iv 4).trans (aX (λm=>some (Value.slice m g.n g.yt)) z6.out));replace b:=b.bd;refine rg [] [300,301,2,3,4,5,6,7,8,9,10,11,12,17,113,14,15,116,218,19,220] ?_;refine iX ?_;refine I' 2 ?_;refine jL ?_;refine b.fw 4 (lr _ _) ?_;simp only[az];have zM:=Y (lJ (c:=zaw) zt.out.1 R);refine bN (sc _ h J zaw zt.out.1 R (zK.out _ b.aa b.q.2.1.1).f) ?_;refine w9 λzam F H G B=>?_;simp only[az];clear zbi;replace b:=I1 (b.j5 B.S B.is zM.out.1 B.ge) zL.out fL.fg;clear B;revert zM zam F H G b;exact zbg):=d ⟨⟩ e
def QZ(a:c)(d:c->b:=by
 intro zV;have L:=b.ah 0 13;have zs:=oa (C:=[i]) L (nn n.out.nL);replace b:=b.bd;refine ly (aM:=bA [i]) [] (.inr rfl) [0,1,2,3,4,105,6,7,308,9,10,211,12] ?_;iterate 5 (first|(refine rK rfl ?_;simp only[az])|(refine mf (.inl rfl) rfl rfl rfl ?_;simp only[az])|(refine qB ?_ rfl rfl rfl (λp x q=>?_) ?_;rotate_left;(focus ((go_wp2_with fail)<;>exact q.out));simp only[az])|(refine mg ?_ rfl rfl rfl (λp za zx x q=>?_) ?_;rotate_left;(focus ((have zak:=zs p za;go_wp2_with fail)<;>exact q.out));simp only[az]))
 revert L zs b;exact zV):=d a
def MB(a:c)(d:c->b:=by intro zbQ;refine(za3.out _).mono ?_;rintro e s ⟨rfl,p⟩;replace g:=g.S p U;replace j:=j.S p U;replace k:=k.S p U;have zah:A.heap.size<=s.heap.size:=p.size;have zI:s.cell? ⟨zj,0,none⟩=some (.int .i64 (c.w:Int)):=g.au 0;have zy:s.cell? ⟨zt,0,none⟩=some (.int .i64 (h.w:Int)):=j.au 0;have zJ:s.cell? ⟨zj,1,none⟩=some (.int .i64 (c.h:Int)):=g.au 1;have zM:s.cell? ⟨zt,1,none⟩=some (.int .i64 (h.h:Int)):=j.au 1;revert s p g j k zah zI zy zJ zM;exact zbQ):=d a
def UW(a:Nat)(e:c)(d:bj a->c->b:=by intro zbc za9;have zE:=b.cl zbc 139 (v:=.slice (some ⟨Q,W,none⟩) g.n g.yt) (g:=by exact(iv 4).trans (aX (λm=>some (Value.slice m g.n g.yt)) z6.out));revert zE;exact za9):=d ⟨⟩ e
def Cb(a:c)(d:c->b:=by intro z8;rintro e o ⟨rfl,m⟩;refine⟨_,rfl,m,?_⟩;replace b:=b.aS m;revert o m b;exact z8):=d a
def B9(a:c)(d:c->b:=by
 intro zap;rintro e D ⟨rfl,zf,zy,J,L⟩;replace b:=b.part (t:=0) rfl zy J L;try dsimp only[List.set]at b
 revert D zf zy J L b;exact zap):=d a
theorem Fb(a:c)(d:cZ c->b:=by intro zaA;have ze:16*j*c.w<=64*64:=eL Z D;have zd:8*j*(c.w/2)<=32*32:=eL Z Z;revert ze zd;exact zaA.out):b:=d ⟨a⟩
def Cy(a:Nat)(e:c)(d:bj a->c->b:=by intro zn zm;have k:=b.cl zn 1 (v:=X a.H) (g:=by simp[ay,cO,da]);revert k;exact zm):=d ⟨⟩ e
def U3(d:Nat)(g:c)(e:bj d->c->b:=by
 intro zv zbh;refine ax ?_;refine b.ec (oo _ (cL h zv) zw) ?_;intro zak b;simp only[az];have zO:=Y (z'.out.and (fL.fg (r:=cL h zv) (y:=zw)));have O:dX A o _ [(zah,176,qh bL bR bL bR),(zad,175,#[X 1,X 2]),(z8,48,a1 (cG g i j zv)),(zai,71,eh),(zae,131,bI n p)] z g zc _ _:=⟨zaZ,zaN,zaJ,zaz,zaK,za4,b,zaD.out,zaO.out⟩;obtain⟨P,x,w,C⟩:=O.aW;have r:∀c,V A o c->L c/\aT c (cL h zv) zw->∃bK,qf c g.s (cG g i j zv) false g.q D (fo g.s (cG g i j zv)) bK (cL h zv) zw n p:=λc d y=>by exact akQ zv
 obtain⟨bK,I⟩:=r _ b.aa b.q.2;have zS:=Y I.qg;revert zak b zO O P x w C r bK I zS;exact zbh):=e ⟨⟩ g
def ve(a f d h:Nat)(g:c)(e:bj a->bj f->bj d->bj h->c->b:=by intro zbi zbf zbj zbh zbg;replace b:=b.bd;refine rg [] [0,1,2,3,4,5,6,7,zbi,zbf,zbj,11,zbh] ?_;revert b;exact zbg):=e ⟨⟩ ⟨⟩ ⟨⟩ ⟨⟩ g
def Hl(a:c)(d:c->b:=by intro zQ;rintro e zb ⟨rfl,zn,H⟩;refine⟨_,rfl,H,?_⟩;simp only[az];replace b:=b.kZ zn H;clear zn H;revert zb b;exact zQ):=d a
def w9(a:c)(d:c->b:=by intro za7;rintro e zu ⟨zR,zP,zQ,rfl,z1⟩;refine⟨_,rfl,z1.S,?_⟩;revert zu zR zP zQ z1;exact za7):=d a
theorem E8(a:c)(d:cZ c->b:=by intro z1;have za:c.w*c.h<=64*64:=eL D zs;have W:c.w/2*(c.h/2)<=32*32:=eL Z Z;revert za W;exact z1.out):b:=d ⟨a⟩
def Fk(a:c)(d:c->b:=by intro zbc;have zm:=Y (λa=>qQ c m f a);have zH:=Y (λa=>qQ h l q a);revert zm zH;exact zbc):=d a
def Dq(a:c)(d:c->b:=by intro zbd;obtain⟨zh,zn,zi,zk,zj,zo,b,zm,zp⟩:=C _ _ _ _ _ zy;have zD:=Y zx;have zq:=Y zm;have zr:=Y zp;revert zh zn zi zk zj zo b zm zp zD zq zr;exact zbd):=d a
def x'(a:Nat)(e:c)(d:bj a->c->b:=by intro zK zH;refine tD (a:=zK) bm rfl λf a=>?_;revert f a;exact zH):=d ⟨⟩ e
def uH(a:c)(d:c->b:=by intro zaK;refine ax ?_;refine lO _ eh rfl bY rfl ?_;intro zf zb zy zA zc;revert zf zb zy zA zc;exact zaK):=d a
def GP(a:c)(d:c->b:=by intro zas;rintro e zs ⟨rfl,zP,zR,zm,zQ⟩;refine⟨_,rfl,?_⟩;replace b:=b.kJ zR zm zQ;clear zR zm zQ;refine ax ?_;revert zs zP b;exact zas):=d a
def Ms(a:c)(d:c->b:=by intro z';obtain⟨x,zb⟩:∃x,x=16*j*c.w+16*h:=⟨_,rfl⟩;obtain⟨q,H⟩:∃q,q=8*j*(c.w/2)+8*h:=⟨_,rfl⟩;obtain⟨m,K⟩:∃m,m=c.w/2:=⟨_,rfl⟩;revert x zb q H m K;exact z'):=d a
theorem U6(d f:Nat)(g:c)(e:bj d->bj f->cZ c->b:=by
 intro zbe zV zbq;obtain⟨P,x,w,C⟩:=O.aW;have r:∀c,V A o c->((L c/\aT c (cL h zbe) zw)/\aT c k l)/\aT c (cL h zV) zs->∃bK,qf c g.s (cG g i j zV) true g.q D (fo g.s (cG g i j zV)) bK (cL h zV) zs {n with bs:=k} {p with bs:=l}:=λc d y=>by exact akP zV
 obtain⟨zT,I⟩:=r _ b.aa b.q.2;have zY:=Y I.qg;revert P x w C r zT I zY;exact zbq.out):b:=e ⟨⟩ ⟨⟩ ⟨g⟩
def I'(a:Nat)(e:c)(d:bj a->c->b:=by intro za8 zba;refine b.fw za8 (cX _) ?_;refine vZ ?_;refine iR (aL:=al h J) (z7.out _ b.aa).1 aB ?_;exact zba):=d ⟨⟩ e
def PG(a:c)(d:c->b:=by
 intro zY;have Q:∀j,j<8->aV (e0 a f d) (1+h) l j=e0 a f (d+1) j:=λj k=>by rw[acL a f d g s j k,<-zi.out,<-K.out];rfl
 revert Q;exact zY):=d a