/- The sort of zigzag: slices.SortFunc by the shelf's contract. -/
import Derived.Test.YtmjjdehicngffaaDoorD4
import Derived.Shelf.SlSortCmp.NoneTotal
import Derived.Shelf.SlicesG.Cmp
namespace Go.Proofs.YtmjjdehicngffaaDoor
open Go.RowKit Go.Shelf Go.Sort

/- Where the sort's functions and types lie in this program. -/
def sortLRen : Go.Shelf.Ren := ⟨fun | 6 => 19 | 15 => 27 | 14 => 26 | 28 => 38 | 29 => 39 | 20 => 30 | 21 => 31 | 22 => 32 | 23 => 33 | 24 => 34 | 25 => 35 | 26 => 36 | 27 => 37 | 46 => 40 | 47 => 41 | 48 => 42 | 49 => 43 | 50 => 44 | 57 => 45 | n => n, fun | 22 => 22 | 24 => 3 | 25 => 37 | 3 => 3 | 39 => 40 | 0 => 0 | 53 => 56 | 55 => 58 | 4 => 4 | 46 => 49 | 45 => 48 | 50 => 53 | 5 => 5 | 9 => 9 | 66 => 59 | 70 => 63 | 76 => 65 | 77 => 66 | n => n, fun n => n⟩
theorem sortL : SlLaysF.n6 Tryd.prog sortLRen where
  mixed := by kernel_rfl
  f6 := ⟨ "slices.SortFunc[[]int,int]", by decide, Tryd.func19.trans (congrArg some (by kernel_rfl))⟩
  f14 := ⟨ "slices.pdqsortCmpFunc[int]", by decide, Tryd.func26.trans (congrArg some (by kernel_rfl))⟩
  f15 := Tryd.func27.trans (congrArg some (by kernel_rfl))
  f20 := ⟨ "slices.insertionSortCmpFunc[int]", by decide, Tryd.func30.trans (congrArg some (by kernel_rfl))⟩
  f21 := ⟨ "slices.heapSortCmpFunc[int]", by decide, Tryd.func31.trans (congrArg some (by kernel_rfl))⟩
  f22 := ⟨ "slices.breakPatternsCmpFunc[int]", by decide, Tryd.func32.trans (congrArg some (by kernel_rfl))⟩
  f23 := ⟨ "slices.choosePivotCmpFunc[int]", by decide, Tryd.func33.trans (congrArg some (by kernel_rfl))⟩
  f24 := ⟨ "slices.reverseRangeCmpFunc[int]", by decide, Tryd.func34.trans (congrArg some (by kernel_rfl))⟩
  f25 := ⟨ "slices.partialInsertionSortCmpFunc[int]", by decide, Tryd.func35.trans (congrArg some (by kernel_rfl))⟩
  f26 := ⟨ "slices.partitionEqualCmpFunc[int]", by decide, Tryd.func36.trans (congrArg some (by kernel_rfl))⟩
  f27 := ⟨ "slices.partitionCmpFunc[int]", by decide, Tryd.func37.trans (congrArg some (by kernel_rfl))⟩
  f28 := Tryd.func38.trans (congrArg some (by kernel_rfl))
  f29 := Tryd.func39.trans (congrArg some (by kernel_rfl))
  f46 := ⟨ "slices.siftDownCmpFunc[int]", by decide, Tryd.func40.trans (congrArg some (by kernel_rfl))⟩
  f47 := Tryd.func41.trans (congrArg some (by kernel_rfl))
  f48 := Tryd.func42.trans (congrArg some (by kernel_rfl))
  f49 := ⟨ "slices.medianAdjacentCmpFunc[int]", by decide, Tryd.func43.trans (congrArg some (by kernel_rfl))⟩
  f50 := ⟨ "slices.medianCmpFunc[int]", by decide, Tryd.func44.trans (congrArg some (by kernel_rfl))⟩
  f57 := ⟨ "slices.order2CmpFunc[int]", by decide, Tryd.func45.trans (congrArg some (by kernel_rfl))⟩
  t0 := Tryd.underlying0
  a0 := Tryd.isAgg0
  z0 := Tryd.sizeOf0
  v0 := Tryd.zeroValue0
  t3 := Tryd.underlying3
  a3 := Tryd.isAgg3
  z3 := Tryd.sizeOf3
  v3 := Tryd.zeroValue3
  t4 := Tryd.underlying4
  a4 := Tryd.isAgg4
  z4 := Tryd.sizeOf4
  v4 := Tryd.zeroValue4
  t5 := Tryd.underlying5
  a5 := Tryd.isAgg5
  z5 := Tryd.sizeOf5
  v5 := Tryd.zeroValue5
  t9 := Tryd.underlying9
  a9 := Tryd.isAgg9
  z9 := Tryd.sizeOf9
  v9 := Tryd.zeroValue9
  t22 := Tryd.underlying22
  a22 := Tryd.isAgg22
  z22 := Tryd.sizeOf22
  v22 := Tryd.zeroValue22
  a24 := Tryd.isAgg3
  z24 := Tryd.sizeOf3
  t25 := Tryd.underlying37
  a25 := Tryd.isAgg37
  z25 := Tryd.sizeOf37
  v25 := Tryd.zeroValue37
  t39 := Tryd.underlying40
  a39 := Tryd.isAgg40
  z39 := Tryd.sizeOf40
  v39 := Tryd.zeroValue40
  t45 := Tryd.underlying48
  a45 := Tryd.isAgg48
  z45 := Tryd.sizeOf48
  v45 := Tryd.zeroValue48
  t46 := Tryd.underlying49
  a46 := Tryd.isAgg49
  z46 := Tryd.sizeOf49
  v46 := Tryd.zeroValue49
  t50 := Tryd.underlying53
  a50 := Tryd.isAgg53
  z50 := Tryd.sizeOf53
  v50 := Tryd.zeroValue53
  t53 := Tryd.underlying56
  a53 := Tryd.isAgg56
  z53 := Tryd.sizeOf56
  v53 := Tryd.zeroValue56
  t55 := Tryd.underlying58
  a55 := Tryd.isAgg58
  z55 := Tryd.sizeOf58
  v55 := Tryd.zeroValue58
  t66 := Tryd.underlying59
  a66 := Tryd.isAgg59
  z66 := Tryd.sizeOf59
  v66 := Tryd.zeroValue59
  t70 := Tryd.underlying63
  a70 := Tryd.isAgg63
  z70 := Tryd.sizeOf63
  v70 := Tryd.zeroValue63
  t76 := Tryd.underlying65
  a76 := Tryd.isAgg65
  z76 := Tryd.sizeOf65
  v76 := Tryd.zeroValue65
  t77 := Tryd.underlying66
  a77 := Tryd.isAgg66
  z77 := Tryd.sizeOf66
  v77 := Tryd.zeroValue66
def cmpLRen : Go.Shelf.Ren := ⟨fun | 5 => 21 | 7 => 28 | n => n, fun | 22 => 3 | 3 => 3 | 4 => 4 | n => n, fun n => n⟩
theorem cmpL : SlLaysC2.n5 Tryd.prog cmpLRen where
  mixed := by kernel_rfl
  f5 := ⟨ "cmp.Compare[int]", by decide, Tryd.func21.trans (congrArg some (by kernel_rfl))⟩
  f7 := ⟨ "cmp.isNaN[int]", by decide, Tryd.func28.trans (congrArg some (by kernel_rfl))⟩
  t3 := Tryd.underlying3
  a3 := Tryd.isAgg3
  z3 := Tryd.sizeOf3
  v3 := Tryd.zeroValue3
  t4 := Tryd.underlying4
  a4 := Tryd.isAgg4
  z4 := Tryd.sizeOf4
  v4 := Tryd.zeroValue4
  t22 := Tryd.underlying3
  a22 := Tryd.isAgg3
  z22 := Tryd.sizeOf3
  v22 := Tryd.zeroValue3

/-- Row k of diagonal s, as the sort meets it (what lies beyond the diagonal is never met). -/
def eV (s : Nat) (k : Fin 8) : Int := if k.val < ct s then ((7 * (lo s + k.val) + s : Nat) : Int) else ((8 * (lo s + k.val) : Nat) : Int)
def enV (s : Nat) (k : Fin 8) : Value := .int .i64 (eV s k)
def cfV (s : Nat) (x y : Fin 8) : Int := if s % 2 = 0 then Lib.compareInt ((lo s + y.val : Nat) : Int) ((lo s + x.val : Nat) : Int) else Lib.compareInt ((lo s + x.val : Nat) : Int) ((lo s + y.val : Nat) : Int)
theorem ltV (s : Nat) (x y : Fin 8) : ltOf (cfV s) x y = if s % 2 = 0 then decide (y < x) else decide (x < y) := by
  unfold ltOf cfV Lib.compareInt
  have hx := x.isLt
  have hy := y.isLt
  simp only [Fin.lt_def]
  by_cases h : s % 2 = 0
  · rw [if_pos h, if_pos h]
    by_cases h1 : y.val < x.val
    · rw [if_pos (by omega), decide_eq_true h1]; rfl
    · rw [if_neg (by omega), decide_eq_false h1]
      split <;> rfl
  · rw [if_neg h, if_neg h]
    by_cases h1 : x.val < y.val
    · rw [if_pos (by omega), decide_eq_true h1]; rfl
    · rw [if_neg (by omega), decide_eq_false h1]
      split <;> rfl
theorem swoV (s : Nat) : SWO (ltOf (cfV s)) where
  irrefl x := by rw [ltV]; split <;> simp
  trans x y z h1 h2 := by
    rw [ltV] at *
    split <;> simp_all [Fin.lt_def] <;> omega
  ntrans x y z h1 h2 := by
    rw [ltV] at *
    split <;> simp_all [Fin.le_def] <;> omega
theorem totV (s : Nat) (x y : Fin 8) (h1 : ltOf (cfV s) x y = false) (h2 : ltOf (cfV s) y x = false) : x = y := by
  rw [ltV] at *
  apply Fin.ext
  split at h1 <;> simp_all [Fin.le_def] <;> omega
theorem eV_div (s : Nat) (h : s < 15) (k : Fin 8) : eV s k / 8 = ((lo s + k.val : Nat) : Int) ∧ 0 ≤ eV s k ∧ eV s k ≤ 1000 := by
  have hk := k.isLt
  unfold eV
  by_cases hc : k.val < ct s
  · rw [if_pos hc]
    unfold ct lo at *
    omega
  · rw [if_neg hc]
    unfold lo at *
    omega
set_option maxHeartbeats 1000000 in
theorem closure_any (W : World) (gs s : Nat) (hs : s < 15) (hb : Blk W gs 3 #[.int .i64 (s : Int)]) (x y : Fin 8) :
    Calls Tryd.prog 20 #[enV s x, enV s y, .pointer (some ⟨gs, 0, none⟩)] W fun e w' => e = .returned (.int .i64 (cfV s x y)) ∧ w' = W := by
  obtain ⟨hx, hx0, hx1⟩ := eV_div s hs x
  obtain ⟨hy, hy0, hy1⟩ := eV_div s hs y
  have hc := hb.cell 0
  have HC1 := Lib.hid (show s % 2 = 0 → Calls Tryd.prog 21 #[.int .i64 ((lo s + y.val : Nat) : Int), .int .i64 ((lo s + x.val : Nat) : Int)] W fun e w' => e = .returned (.int .i64 (cfV s x y)) ∧ w' = W from fun h => by
    have := AnyG.cmp_Compare_int cmpL ((lo s + y.val : Nat) : Int) ((lo s + x.val : Nat) : Int) W
    unfold cfV
    rw [if_pos h]
    exact this)
  have HC2 := Lib.hid (show ¬ s % 2 = 0 → Calls Tryd.prog 21 #[.int .i64 ((lo s + x.val : Nat) : Int), .int .i64 ((lo s + y.val : Nat) : Int)] W fun e w' => e = .returned (.int .i64 (cfV s x y)) ∧ w' = W from fun h => by
    have := AnyG.cmp_Compare_int cmpL ((lo s + x.val : Nat) : Int) ((lo s + y.val : Nat) : Int) W
    unfold cfV
    rw [if_neg h]
    exact this)
  unfold enV
  generalize eV s x = vx at hx hx0 hx1 ⊢
  generalize eV s y = vy at hy hy0 hy1 ⊢
  generalize cfV s x y = r at HC1 HC2 ⊢
  generalize lo s + x.val = nx at hx HC1 HC2
  generalize lo s + y.val = ny at hy HC1 HC2
  by_cases hp : s % 2 = 0
  · have h1 := HC1.out hp
    have hpd : ((s : Int) % 2 == 0) = true := by rw [beq_iff_eq]; omega
    have H1 := Lib.hid h1
    clear hp h1 HC1 HC2 hb
    go_enter Tryd.func20, Tryd.ntmps20
    go_wp2_with fail
    refine H1.out.mono ?_
    rintro e w' ⟨rfl, rfl⟩
    go_wp2_with fail
    go_ret
    exact ⟨rfl, rfl⟩
  · have h1 := HC2.out hp
    have hpd : ((s : Int) % 2 == 0) = false := by rw [beq_eq_false_iff_ne]; omega
    have H1 := Lib.hid h1
    clear hp h1 HC1 HC2 hb
    go_enter Tryd.func20, Tryd.ntmps20
    go_wp2_with fail
    refine H1.out.mono ?_
    rintro e w' ⟨rfl, rfl⟩
    go_wp2_with fail
    go_ret
    exact ⟨rfl, rfl⟩
def rows8 (s : Nat) : List (Fin 8) := (List.finRange 8).take (ct s)
theorem rows8_len {s : Nat} (h : ct s ≤ 8) : (rows8 s).length = ct s := by simp [rows8]; omega
theorem rows8_get {s k : Nat} (h : ct s ≤ 8) (hk : k < ct s) : (rows8 s)[k]? = some ⟨k, by omega⟩ := by
  unfold rows8
  rw [List.getElem?_take, if_pos hk, List.getElem?_eq_getElem (by simp; omega)]
  simp
def sorted8 (s : Nat) : List (Fin 8) := if s % 2 = 0 then (rows8 s).reverse else rows8 s
theorem rows8_lt (s : Nat) : (rows8 s).Pairwise fun x y => x < y := (by decide : (List.finRange 8).Pairwise fun x y => x < y).sublist (List.take_sublist _ _)
theorem sorted8_eq (s : Nat) : ((rows8 s).mergeSort fun x y => !(ltOf (cfV s)) y x) = sorted8 s := by
  refine List.Perm.eq_of_pairwise (le := fun x y => (!(ltOf (cfV s)) y x) = true) ?_ ?_ ?_ ((List.mergeSort_perm _ _).trans ?_)
  · intro a b _ _ h1 h2
    simp only [Bool.not_eq_true'] at h1 h2
    exact totV s a b h2 h1
  · refine List.pairwise_mergeSort ?_ ?_ _
    · intro a b c h1 h2
      simp only [Bool.not_eq_true'] at h1 h2 ⊢
      exact (swoV s).ntrans c b a h2 h1
    · intro a b
      rw [ltV, ltV]
      split <;> simp [Fin.le_def] <;> omega
  · unfold sorted8
    by_cases h : s % 2 = 0
    · rw [if_pos h, List.pairwise_reverse]
      refine (rows8_lt s).imp fun {a b} hab => ?_
      rw [ltV, if_pos h]
      simp [Fin.lt_def] at *
      omega
    · rw [if_neg h]
      refine (rows8_lt s).imp fun {a b} hab => ?_
      rw [ltV, if_neg h]
      simp [Fin.lt_def] at *
      omega
  · unfold sorted8
    split
    · exact (List.reverse_perm _).symm
    · exact List.Perm.refl _
theorem sorted8_len {s : Nat} (h : ct s ≤ 8) : (sorted8 s).length = ct s := by unfold sorted8; split <;> simp [rows8_len h]
theorem sorted8_get {s k : Nat} (h : ct s ≤ 8) (hk : k < ct s) : (sorted8 s)[k]? = some ⟨if s % 2 = 0 then ct s - 1 - k else k, by split <;> omega⟩ := by
  unfold sorted8
  by_cases hp : s % 2 = 0
  · simp only [if_pos hp]
    rw [List.getElem?_reverse (by rw [rows8_len h]; exact hk), rows8_len h]
    exact rows8_get h (by omega)
  · simp only [if_neg hp]
    exact rows8_get h hk
theorem sortWorld_heap (enc : Fin 8 → Value) (w : World) (blk off m : Nat) (d : Array (Fin 8)) (os : Array Obj) {k : Nat} (hk : k < w.heap.size) (hne : k ≠ blk) : (sortWorld enc w blk off m d os).heap[k]? = w.heap[k]? := by
  unfold sortWorld
  rw [heap_grow_old _ _ (by simpa [putRow, mapBlock, Sort.ahead] using hk)]
  simp [putRow, mapBlock, Sort.ahead, Array.getElem?_modify, Ne.symm hne]
theorem sortWorld_blk (enc : Fin 8 → Value) (w : World) (blk off m : Nat) (d : Array (Fin 8)) (os : Array Obj) {t : TypeId} {cs : Array Value} (h : Blk w blk t cs) : Blk (sortWorld enc w blk off m d os) blk t (putCells enc off d cs) := by
  have hk := h.lt
  unfold Blk at h ⊢
  unfold sortWorld
  rw [heap_grow_old _ _ (by simpa [putRow, mapBlock, Sort.ahead] using hk)]
  simp [putRow, mapBlock, Sort.ahead, Array.getElem?_modify, h, onCells]
theorem sortWorld_only (enc : Fin 8 → Value) (w : World) (blk off m : Nat) (d : Array (Fin 8)) (os : Array Obj) : Only [blk] w (sortWorld enc w blk off m d os) :=
  ⟨rfl, rfl, rfl, by simp [sortWorld, putRow, mapBlock, Sort.ahead], fun k hk hn => sortWorld_heap enc w blk off m d os hk (by simpa using hn)⟩
theorem sort_any : SortC := by
  intro w g gs s hs hb hgs
  obtain ⟨f1, f2, f3, f4, f5⟩ := dg_facts hs
  have hne : gs ≠ g := fun e => by subst e; exact absurd (Blk.ne_ hgs hb (by decide)) (by simp)
  have hsz : (rows8 s).toArray.size = ct s := by simpa using rows8_len f4
  have hmidk : ∀ k, k < ct s → mid s (ct s) (cn (8 * s) + k) = ((7 * (lo s + k) + s : Nat) : Int) := fun k hk => by
    unfold mid
    rw [if_neg (by omega), if_pos (by omega), show cn (8 * s) + k - cn (8 * s) = k by omega]
  have hH : Holds (enV s) w g (cn (8 * s)) (rows8 s).toArray := by
    intro k hk
    rw [hsz] at hk
    refine ⟨?_, hb.frozen _⟩
    rw [hb.cell, arr_get (by omega), hmidk k hk]
    have hg := rows8_get f4 hk
    have : (rows8 s).toArray[k]! = ⟨k, by omega⟩ := by
      rw [getElem!_pos _ _ (by rw [hsz]; exact hk)]
      have h2 : (rows8 s)[k]? = some ((rows8 s)[k]'(by rw [rows8_len f4]; exact hk)) := List.getElem?_eq_getElem _
      rw [hg] at h2
      injection h2 with h2
      simpa using h2.symm
    rw [this]
    unfold enV eV
    rw [if_pos hk]
  have hcmp : CmpLays1 Tryd.prog 20 #[.pointer (some ⟨gs, 0, none⟩)] (enV s) (cfV s) g (cn (8 * s)) (rows8 s).toArray.size w := by
    intro m os dk _ x y
    have hb2 : Blk (sortWorld (enV s) w g (cn (8 * s)) m dk os) gs 3 #[.int .i64 (s : Int)] := (sortWorld_heap _ _ _ _ _ _ _ hgs.lt hne).trans hgs
    refine (closure_any _ gs s hs hb2 x y).mono fun e w' ⟨he, hw⟩ => ⟨he, 0, #[], ?_⟩
    rw [hw, grow_empty]
    rfl
  have eg : ∀ args w, (callFunc 20 args).run Tryd.prog w = .ok (.enter 20 args) w := enters_of Tryd.func20 (by kernel_rfl) rfl
  have hS := Any.slices_SortFunc_total sortL (enV s) (fun _ => rfl) (cfV s) (swoV s) 20 #[.pointer (some ⟨gs, 0, none⟩)] g (cn (8 * s)) (64 - cn (8 * s)) (rows8 s).toArray w eg hcmp hH hb.lt (by rw [hsz]; omega) (totV s)
  rw [hsz, sorted8_eq] at hS
  refine Calls.mono hS ?_
  rintro e w' ⟨he, n, os, rfl⟩
  refine ⟨he, sortWorld_only _ _ _ _ _ _ _, ?_⟩
  have hfin := sortWorld_blk (enV s) w g (cn (8 * s)) n (sorted8 s).toArray os hb
  have heq : putCells (enV s) (cn (8 * s)) (sorted8 s).toArray (arr .i64 64 (mid s (ct s))) = arr .i64 64 (upto (cn (8 * (s + 1))) (scV false)) := by
    apply Array.ext_getElem?
    intro i
    unfold putCells
    rw [Array.getElem?_mapIdx]
    by_cases hi : i < 64
    · rw [arr_get hi, arr_get hi]
      have hl : (sorted8 s).toArray.size = ct s := by simpa using sorted8_len f4
      simp only [Option.map_some, hl]
      by_cases hr : cn (8 * s) ≤ i ∧ i < cn (8 * s) + ct s
      · rw [if_pos hr]
        obtain ⟨k, rfl⟩ : ∃ k, i = cn (8 * s) + k := ⟨i - cn (8 * s), by omega⟩
        have hk : k < ct s := by omega
        rw [show cn (8 * s) + k - cn (8 * s) = k by omega]
        have hg := sorted8_get f4 hk
        have hv : (sorted8 s).toArray[k]! = ⟨if s % 2 = 0 then ct s - 1 - k else k, by split <;> omega⟩ := by
          rw [getElem!_pos _ _ (by rw [hl]; exact hk)]
          have h2 : (sorted8 s)[k]? = some ((sorted8 s)[k]'(by rw [sorted8_len f4]; exact hk)) := List.getElem?_eq_getElem _
          rw [hg] at h2
          injection h2 with h2
          simpa using h2.symm
        rw [hv]
        have hlt : (if s % 2 = 0 then ct s - 1 - k else k) < ct s := by split <;> omega
        unfold enV eV upto scV
        simp only
        rw [if_pos hlt, if_pos (show cn (8 * s) + k < cn (8 * (s + 1)) by omega), f5 k hk]
      · rw [if_neg hr]
        unfold mid upto
        by_cases h1 : i < cn (8 * s)
        · rw [if_pos h1, if_pos (by omega)]
        · rw [if_neg h1, if_neg (by omega), if_neg (by omega)]
    · rw [Array.getElem?_eq_none (by rw [arr_size]; omega), Array.getElem?_eq_none (by rw [arr_size]; omega)]
      rfl
  rw [heq] at hfin
  exact hfin
end Go.Proofs.YtmjjdehicngffaaDoor
