/- Proved: QuantScans returns true for all its arguments, which read afterwards as before, where the two package variables hold what the program's text lays; and the card that ties them to it. No other condition. -/
import Derived.Test.YtmjjdehicngffaaDoorCards
import Derived.Test.YtmjjdehicngffaaDoorTie
import Derived.Test.YtmjjdehicngffaaDoorD5
import Derived.Test.YtmjjdehicngffaaDoorRow
import Derived.WalkKit
import Derived.ProofKit
import Derived.OpenShut
import Derived.Deep.DeepHandedRow
import Derived.Lib.LaidTab
namespace Go.Proofs.YtmjjdehicngffaaDoor.quantScans
open Go.ChangeShapes Go.WideShapes Go.ChangeAt Go.RowKit

def altZ : List Int := [0, 8, 16, 24, 1, 9, 2, 10, 17, 25, 32, 40, 48, 56, 57, 49, 41, 33, 26, 18, 3, 11, 4, 12, 19, 27, 34, 42, 50, 58, 35, 43, 51, 59, 20, 28, 5, 13, 6, 14, 21, 29, 36, 44, 52, 60, 37, 45, 53, 61, 22, 30, 7, 15, 23, 31, 38, 46, 54, 62, 39, 47, 55, 63]
def intraZ : List Int := [8, 16, 19, 22, 26, 27, 29, 34, 16, 16, 22, 24, 27, 29, 34, 37, 19, 22, 26, 27, 29, 34, 34, 38, 22, 22, 26, 27, 29, 34, 37, 40, 22, 26, 27, 29, 32, 35, 40, 48, 26, 27, 29, 32, 35, 40, 48, 58, 26, 27, 29, 34, 38, 46, 56, 69, 27, 29, 35, 38, 46, 56, 69, 83]
theorem gA : Tryd.prog.globalNamed "cutroom/quant.alternateScan" = some 0 := by kernel_rfl
theorem gI : Tryd.prog.globalNamed "cutroom/quant.defaultIntra" = some 1 := by kernel_rfl
theorem gAt : (Tryd.prog.globals[0]?).map (·.type) = some 23 := by kernel_rfl
theorem gIt : (Tryd.prog.globals[1]?).map (·.type) = some 28 := by kernel_rfl
theorem arrA : (altZ.map (Value.int .i64)).toArray = arr .i64 64 (scV true) := by kernel_rfl
theorem arrI : (intraZ.map (Value.int .u8)).toArray = arr .u8 64 intraV := by kernel_rfl
/-- A listed variable's block. -/
theorem blk_of {W : World} {name : String} {d : DataW Unit} {rest : List (String × DataW Unit)} {g : Nat} {cs : Array Value} (hg : Tryd.prog.globalNamed name = some g) (hn : 0 < cs.size) (hv : W.var? Tryd.prog name = some cs) (h : laidMet Tryd.prog ((name, d) :: rest) W) : ∃ t, Blk W g t cs := by
  obtain ⟨ps, ⟨g', t', cs', fuel, p, q, hg', _, hvar, _, _, hps⟩, _, hfr⟩ := h
  obtain rfl := Option.some.inj (hg.symm.trans hg')
  obtain rfl := Option.some.inj (hv.symm.trans hvar)
  have hm : MemPlace.cell g 0 ∈ ps := by
    rw [hps]
    exact List.mem_append_left _ (List.mem_append_left _ (MemPlace.mem_row.2 ⟨0, hn, by simp⟩))
  obtain ⟨⟨c, t, hh⟩, _⟩ := hfr g 0 hm
  refine ⟨t, ?_⟩
  simp only [World.var?, hg, Option.bind_some, hh, Option.some.injEq] at hv
  subst hv
  exact hh
theorem tail_of {x : String × DataW Unit} {r : List (String × DataW Unit)} {w : World} (h : laidMet Tryd.prog (x :: r) w) : laidMet Tryd.prog r w := by
  obtain ⟨ps, hv, hnd, hrows⟩ := h
  obtain ⟨n, d⟩ := x
  obtain ⟨g, t, cs, fuel, p, q, _, _, _, _, hq, rfl⟩ := hv
  exact ⟨q, hq, (List.nodup_append.1 hnd).2.1, fun b off hm => hrows b off (List.mem_append_right _ hm)⟩
theorem laid_of {W : World} (h : laidMetH Tryd.prog Rows.quantScansRow.laid W) : Laid W := by
  have h2 : laidMet Tryd.prog (("cutroom/quant.alternateScan", Lib.tabData .i64 altZ) :: [("cutroom/quant.defaultIntra", Lib.tabData .u8 intraZ)]) W := h
  have hA : W.var? Tryd.prog "cutroom/quant.alternateScan" = some (altZ.map (Value.int .i64)).toArray := Lib.tabIs_of_head (n := 64) gA gAt Tryd.underlying23 Tryd.underlying3 (by kernel_rfl) (by kernel_rfl) h2
  have h3 := tail_of h2
  have hI : W.var? Tryd.prog "cutroom/quant.defaultIntra" = some (intraZ.map (Value.int .u8)).toArray := Lib.tabIs_of_head (n := 64) gI gIt Tryd.underlying28 Tryd.underlying5 (by kernel_rfl) (by kernel_rfl) h3
  rw [arrA] at hA
  rw [arrI] at hI
  exact ⟨blk_of gA (by rw [arr_size]; omega) hA h2, blk_of gI (by rw [arr_size]; omega) hI h3⟩
set_option maxRecDepth 100000 in
theorem contract (H : Type) (enc : TypeId × Value → H) (W : World) (base : Nat) (args : Array Value) (ds gs : List (DataW H)) (before : List MemPlace)
    (hval : ∀ (j : Nat) t v, Tryd.f3.params[j]? = some t → args[j]? = some v → Value.okWide Tryd.prog W .any base t v)
    (hW : DataW.Whole enc Tryd.prog Tryd.f3.params.toList Rows.quantScansSpec.vars false W args.toList ds gs before) (hL : laidMetH Tryd.prog Rows.quantScansRow.laid W) :
    Calls Tryd.prog 3 args W fun e W' => ∃ v, e = .returned v ∧ Rows.quantScansSpec.post enc Tryd.prog Tryd.f3 false true false false W args v W' := by
  have hW' := hW
  obtain ⟨p, q, hA0, hV, rfl, hfz, hnd⟩ := hW
  have hA : DataW.TrodAll enc Tryd.prog W 0 (fun _ => true) true Tryd.f3.params.toList args.toList ds p := hA0
  rw [Tryd.params3] at hA hval
  obtain ⟨v0, vs0, d0, ds0, p0, q0, hargs, rfl, rfl, h0, r0⟩ := trodAll_cons hA
  obtain ⟨rfl, rfl, rfl⟩ := trodAll_nil r0
  obtain rfl : args = #[v0] := by cases args; simp_all
  obtain ⟨rfl, rfl⟩ := trodVars_none hV
  obtain ⟨A0, n0, c0, l0, rfl, hl0, hc0, hm0, hr0, hb0⟩ := open_intsR Tryd.underlying22 Tryd.underlying3 (by kernel_rfl) (hval 0 22 v0 rfl rfl) h0
  subst hl0
  have hm0' := Nat.le_trans hc0 hm0
  refine (scans_of sort_any W (laid_of hL) A0 c0 l0 hr0 hm0').mono fun e W' ⟨he, hg⟩ => ?_
  subst he
  exact ⟨_, rfl, law_post hW' laidOut (by kernel_rfl) rfl ⟨rfl, rfl, rfl⟩ rfl Tryd.underlying4 hg.below⟩
/-- A world for the witness. -/
def lay (cs : Array Value) : Obj → Obj
  | .cells _ t frozen => .cells cs t frozen
  | o => o
noncomputable def laidWorld (os : Os) : World :=
  { World.holding Tryd.prog os ⟨#[], #[], []⟩ with heap := ((World.holding Tryd.prog os ⟨#[], #[], []⟩).heap.modify 0 (lay (altZ.map (Value.int .i64)).toArray)).modify 1 (lay (intraZ.map (Value.int .u8)).toArray) }
theorem laid_met (os : Os) : laidMet Tryd.prog Rows.quantScansRow.laid ((laidWorld os).forCall (fun _ _ => 0) ⟨#[], #[.slice none 0 0], []⟩).memory :=
  laidMet_of_run' 8 (by kernel_rfl) (by kernel_rfl)
theorem reads (os : Os) {H : Type} (enc : TypeId × Value → H) : ∃ places, DataW.whole enc Tryd.prog ((laidWorld os).forCall (fun _ _ => 0) ⟨#[], #[.slice none 0 0], []⟩).memory Tryd.f3.params.toList Rows.quantScansSpec.vars false #[Value.slice none 0 0].toList 8 = some ([.nil], [], places) :=
  ⟨[], by kernel_rfl⟩
set_option maxRecDepth 100000 in
theorem lifted (os : Os) (started : os.Started) (H : Type) (enc : TypeId × Value → H) (F : Stop.Interp) :
    ReturnsInHanded {} Tryd.checked os 3 .any ((OpenSpec.ofChange Rows.quantScansSpec).preRow enc Tryd.prog Tryd.f3 Rows.quantScansRow.domain false Rows.quantScansRow.laid) (((OpenSpec.ofChange Rows.quantScansSpec).at F).post enc Tryd.prog Tryd.f3 false true false false) := by
  obtain ⟨places, hx⟩ := reads os enc
  refine returnsInHanded_of_row (C := Tryd.checked) (s := OpenSpec.ofChange Rows.quantScansSpec) own started (by kernel_rfl) Tryd.func3
    (witness_row_at (enc := enc) (C := Tryd.checked) false (laidWorld os) #[.slice none 0 0] rfl (by kernel_rfl) (by kernel_rfl) (by kernel_rfl)
      (OpenSpec.preRow_of_cond 8 hx (by kernel_rfl) (fun k hk => by cases hk) (by kernel_rfl) (laid_met os))) ?_
  intro W base args ds gs before hval hW _ _ _ hL _ _
  exact contract H enc W base args ds gs before hval hW hL
theorem said : Rows.QuantScansSaid :=
  OpenClaim.holds_of_cond 3 Tryd.f3 rfl rfl rfl rfl rfl rfl rfl ⟨rfl, rfl, rfl, rfl, rfl⟩ rfl rfl rfl rfl rfl (by kernel_rfl) Tryd.func3 (by kernel_rfl)
    (of_decide_eq_true (by kernel_rfl)) (by unfold Func.isWrapper; first | (rw [if_pos (by decide +kernel)]; kernel_rfl) | (rw [if_neg (by decide +kernel)]; exact ⟨rfl, rfl⟩))
    (fun os started H enc _ F => by rw [OpenClaim.pre_eq_preRow]; exact lifted os started H enc F)
theorem plain (f : FuncId) (fn : Func) (hf : Tryd.pinned.checked.prog.funcNamed "cutroom/cutroomlaw06.QuantScans" = some f) (hfn : Tryd.pinned.checked.prog.funcs[f]? = some fn) :
    false = Tryd.pinned.checked.prog.looks [] ∧ ∀ (j : Nat) t, fn.params[j]? = some t → Tryd.pinned.checked.prog.wantsStandIn t = false := by
  obtain rfl : f = 3 := Option.some.inj ((show Tryd.prog.funcNamed "cutroom/cutroomlaw06.QuantScans" = some 3 by kernel_rfl).symm.trans hf) |>.symm
  obtain rfl : fn = Tryd.f3 := (Option.some.inj (Tryd.func3.symm.trans hfn)).symm
  refine ⟨by kernel_rfl, fun j t ht => ?_⟩
  rw [Tryd.params3] at ht
  obtain rfl : t = 22 := by simpa using Array.mem_of_getElem? ht
  exact (show Tryd.prog.wantsStandIn 22 = false by kernel_rfl)
/-- The card. -/
theorem card : Rows.QuantScansCardSaid :=
  Claim7.holds_tied_plain_at .later [] _ _ _ _ said (fun _ h => by cases h) (by kernel_rfl) (fun _ h => by cases h) quantScans_row_tie rfl ⟨rfl, rfl⟩ (by kernel_rfl) rfl plain (by kernel_rfl)
#print axioms card
end Go.Proofs.YtmjjdehicngffaaDoor.quantScans
