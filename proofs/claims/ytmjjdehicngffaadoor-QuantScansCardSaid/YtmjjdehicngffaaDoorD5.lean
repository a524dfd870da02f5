/- The sort of zigzag: slices.SortFunc by the shelf's contract. -/
import Derived.Test.YtmjjdehicngffaaDoorD4
import Derived.Shelf.SlSortCmp.NoneTotal
import Derived.Shelf.SlicesG.Cmp
import Derived.Shelf.Lay
import Derived.Ground.SlsfProg
import Derived.Ground.SlgcProg
namespace Go.Proofs
open Go.Shelf
shelf_lay_g SlLaysF.n6 Slsf 6 at Tryd 19 as Tryd.sortL
shelf_lay_g SlLaysC2.n5 Slgc 5 at Tryd 21 as Tryd.cmpL
end Go.Proofs
namespace Go.Proofs.YtmjjdehicngffaaDoor
open Go.RowKit Go.Shelf Go.Sort

/-- Row k of diagonal s, as the sort meets it (what lies beyond the diagonal is never met). -/
def eV (s : Nat) (k : Fin 8) : Int := if k.val < ct s then ((7 * (lo s + k.val) + s : Nat) : Int) else ((8 * (lo s + k.val) : Nat) : Int)
def enV (s : Nat) (k : Fin 8) : Value := .int .i64 (eV s k)
def cfV (s : Nat) (x y : Fin 8) : Int := if s % 2 = 0 then Lib.compareInt ((lo s + y.val : Nat) : Int) ((lo s + x.val : Nat) : Int) else Lib.compareInt ((lo s + x.val : Nat) : Int) ((lo s + y.val : Nat) : Int)
theorem ltV (s : Nat) (x y : Fin 8) : ltOf (cfV s) x y = if s % 2 = 0 then decide (y < x) else decide (x < y) := by
  unfold ltOf cfV Lib.compareInt
  have hx := x.isLt
  have hy := y.isLt
  simp only [Fin.lt_def]
  by_cases h : s % 2 = 0
  · rw [if_pos h, if_pos h]
    by_cases h1 : y.val < x.val
    · rw [if_pos (by omega), decide_eq_true h1]; rfl
    · rw [if_neg (by omega), decide_eq_false h1]
      split <;> rfl
  · rw [if_neg h, if_neg h]
    by_cases h1 : x.val < y.val
    · rw [if_pos (by omega), decide_eq_true h1]; rfl
    · rw [if_neg (by omega), decide_eq_false h1]
      split <;> rfl
theorem swoV (s : Nat) : SWO (ltOf (cfV s)) where
  irrefl x := by rw [ltV]; split <;> simp
  trans x y z h1 h2 := by
    rw [ltV] at *
    split <;> simp_all [Fin.lt_def] <;> omega
  ntrans x y z h1 h2 := by
    rw [ltV] at *
    split <;> simp_all [Fin.le_def] <;> omega
theorem totV (s : Nat) (x y : Fin 8) (h1 : ltOf (cfV s) x y = false) (h2 : ltOf (cfV s) y x = false) : x = y := by
  rw [ltV] at *
  apply Fin.ext
  split at h1 <;> simp_all [Fin.le_def] <;> omega
theorem eV_div (s : Nat) (h : s < 15) (k : Fin 8) : eV s k / 8 = ((lo s + k.val : Nat) : Int) ∧ 0 ≤ eV s k ∧ eV s k ≤ 1000 := by
  have hk := k.isLt
  unfold eV
  by_cases hc : k.val < ct s
  · rw [if_pos hc]
    unfold ct lo at *
    omega
  · rw [if_neg hc]
    unfold lo at *
    omega
set_option maxHeartbeats 1000000 in
theorem closure_any (W : World) (gs s : Nat) (hs : s < 15) (hb : Blk W gs 3 #[.int .i64 (s : Int)]) (x y : Fin 8) :
    Calls Tryd.prog 20 #[enV s x, enV s y, .pointer (some ⟨gs, 0, none⟩)] W fun e w' => e = .returned (.int .i64 (cfV s x y)) ∧ w' = W := by
  obtain ⟨hx, hx0, hx1⟩ := eV_div s hs x
  obtain ⟨hy, hy0, hy1⟩ := eV_div s hs y
  have hc := hb.cell 0
  have HC1 := Lib.hid (show s % 2 = 0 → Calls Tryd.prog 21 #[.int .i64 ((lo s + y.val : Nat) : Int), .int .i64 ((lo s + x.val : Nat) : Int)] W fun e w' => e = .returned (.int .i64 (cfV s x y)) ∧ w' = W from fun h => by
    have := AnyG.cmp_Compare_int Tryd.cmpL ((lo s + y.val : Nat) : Int) ((lo s + x.val : Nat) : Int) W
    unfold cfV
    rw [if_pos h]
    exact this)
  have HC2 := Lib.hid (show ¬ s % 2 = 0 → Calls Tryd.prog 21 #[.int .i64 ((lo s + x.val : Nat) : Int), .int .i64 ((lo s + y.val : Nat) : Int)] W fun e w' => e = .returned (.int .i64 (cfV s x y)) ∧ w' = W from fun h => by
    have := AnyG.cmp_Compare_int Tryd.cmpL ((lo s + x.val : Nat) : Int) ((lo s + y.val : Nat) : Int) W
    unfold cfV
    rw [if_neg h]
    exact this)
  unfold enV
  generalize eV s x = vx at hx hx0 hx1 ⊢
  generalize eV s y = vy at hy hy0 hy1 ⊢
  generalize cfV s x y = r at HC1 HC2 ⊢
  generalize lo s + x.val = nx at hx HC1 HC2
  generalize lo s + y.val = ny at hy HC1 HC2
  by_cases hp : s % 2 = 0
  · have h1 := HC1.out hp
    have hpd : ((s : Int) % 2 == 0) = true := by rw [beq_iff_eq]; omega
    have H1 := Lib.hid h1
    clear hp h1 HC1 HC2 hb
    go_enter Tryd.func20, Tryd.ntmps20
    go_wp2_with fail
    refine H1.out.mono ?_
    rintro e w' ⟨rfl, rfl⟩
    go_wp2_with fail
    go_ret
    exact ⟨rfl, rfl⟩
  · have h1 := HC2.out hp
    have hpd : ((s : Int) % 2 == 0) = false := by rw [beq_eq_false_iff_ne]; omega
    have H1 := Lib.hid h1
    clear hp h1 HC1 HC2 hb
    go_enter Tryd.func20, Tryd.ntmps20
    go_wp2_with fail
    refine H1.out.mono ?_
    rintro e w' ⟨rfl, rfl⟩
    go_wp2_with fail
    go_ret
    exact ⟨rfl, rfl⟩
def rows8 (s : Nat) : List (Fin 8) := (List.finRange 8).take (ct s)
theorem rows8_len {s : Nat} (h : ct s ≤ 8) : (rows8 s).length = ct s := by simp [rows8]; omega
theorem rows8_get {s k : Nat} (h : ct s ≤ 8) (hk : k < ct s) : (rows8 s)[k]? = some ⟨k, by omega⟩ := by
  unfold rows8
  rw [List.getElem?_take, if_pos hk, List.getElem?_eq_getElem (by simp; omega)]
  simp
def sorted8 (s : Nat) : List (Fin 8) := if s % 2 = 0 then (rows8 s).reverse else rows8 s
theorem rows8_lt (s : Nat) : (rows8 s).Pairwise fun x y => x < y := (by decide : (List.finRange 8).Pairwise fun x y => x < y).sublist (List.take_sublist _ _)
theorem sorted8_eq (s : Nat) : ((rows8 s).mergeSort fun x y => !(ltOf (cfV s)) y x) = sorted8 s := by
  refine List.Perm.eq_of_pairwise (le := fun x y => (!(ltOf (cfV s)) y x) = true) ?_ ?_ ?_ ((List.mergeSort_perm _ _).trans ?_)
  · intro a b _ _ h1 h2
    simp only [Bool.not_eq_true'] at h1 h2
    exact totV s a b h2 h1
  · refine List.pairwise_mergeSort ?_ ?_ _
    · intro a b c h1 h2
      simp only [Bool.not_eq_true'] at h1 h2 ⊢
      exact (swoV s).ntrans c b a h2 h1
    · intro a b
      rw [ltV, ltV]
      split <;> simp [Fin.le_def] <;> omega
  · unfold sorted8
    by_cases h : s % 2 = 0
    · rw [if_pos h, List.pairwise_reverse]
      refine (rows8_lt s).imp fun {a b} hab => ?_
      rw [ltV, if_pos h]
      simp [Fin.lt_def] at *
      omega
    · rw [if_neg h]
      refine (rows8_lt s).imp fun {a b} hab => ?_
      rw [ltV, if_neg h]
      simp [Fin.lt_def] at *
      omega
  · unfold sorted8
    split
    · exact (List.reverse_perm _).symm
    · exact List.Perm.refl _
theorem sorted8_len {s : Nat} (h : ct s ≤ 8) : (sorted8 s).length = ct s := by unfold sorted8; split <;> simp [rows8_len h]
theorem sorted8_get {s k : Nat} (h : ct s ≤ 8) (hk : k < ct s) : (sorted8 s)[k]? = some ⟨if s % 2 = 0 then ct s - 1 - k else k, by split <;> omega⟩ := by
  unfold sorted8
  by_cases hp : s % 2 = 0
  · simp only [if_pos hp]
    rw [List.getElem?_reverse (by rw [rows8_len h]; exact hk), rows8_len h]
    exact rows8_get h (by omega)
  · simp only [if_neg hp]
    exact rows8_get h hk
theorem sortWorld_heap (enc : Fin 8 → Value) (w : World) (blk off m : Nat) (d : Array (Fin 8)) (os : Array Obj) {k : Nat} (hk : k < w.heap.size) (hne : k ≠ blk) : (sortWorld enc w blk off m d os).heap[k]? = w.heap[k]? := by
  unfold sortWorld
  rw [heap_grow_old _ _ (by simpa [putRow, mapBlock, Sort.ahead] using hk)]
  simp [putRow, mapBlock, Sort.ahead, Array.getElem?_modify, Ne.symm hne]
theorem sortWorld_blk (enc : Fin 8 → Value) (w : World) (blk off m : Nat) (d : Array (Fin 8)) (os : Array Obj) {t : TypeId} {cs : Array Value} (h : Blk w blk t cs) : Blk (sortWorld enc w blk off m d os) blk t (putCells enc off d cs) := by
  have hk := h.lt
  unfold Blk at h ⊢
  unfold sortWorld
  rw [heap_grow_old _ _ (by simpa [putRow, mapBlock, Sort.ahead] using hk)]
  simp [putRow, mapBlock, Sort.ahead, Array.getElem?_modify, h, onCells]
theorem sortWorld_only (enc : Fin 8 → Value) (w : World) (blk off m : Nat) (d : Array (Fin 8)) (os : Array Obj) : Only [blk] w (sortWorld enc w blk off m d os) :=
  ⟨rfl, rfl, rfl, by simp [sortWorld, putRow, mapBlock, Sort.ahead], fun k hk hn => sortWorld_heap enc w blk off m d os hk (by simpa using hn)⟩
theorem sort_any : SortC := by
  intro w g gs s hs hb hgs
  obtain ⟨f1, f2, f3, f4, f5⟩ := dg_facts hs
  have hne : gs ≠ g := fun e => by subst e; exact absurd (Blk.ne_ hgs hb (by decide)) (by simp)
  have hsz : (rows8 s).toArray.size = ct s := by simpa using rows8_len f4
  have hmidk : ∀ k, k < ct s → mid s (ct s) (cn (8 * s) + k) = ((7 * (lo s + k) + s : Nat) : Int) := fun k hk => by
    unfold mid
    rw [if_neg (by omega), if_pos (by omega), show cn (8 * s) + k - cn (8 * s) = k by omega]
  have hH : Holds (enV s) w g (cn (8 * s)) (rows8 s).toArray := by
    intro k hk
    rw [hsz] at hk
    refine ⟨?_, hb.frozen _⟩
    rw [hb.cell, arr_get (by omega), hmidk k hk]
    have hg := rows8_get f4 hk
    have : (rows8 s).toArray[k]! = ⟨k, by omega⟩ := by
      rw [getElem!_pos _ _ (by rw [hsz]; exact hk)]
      have h2 : (rows8 s)[k]? = some ((rows8 s)[k]'(by rw [rows8_len f4]; exact hk)) := List.getElem?_eq_getElem _
      rw [hg] at h2
      injection h2 with h2
      simpa using h2.symm
    rw [this]
    unfold enV eV
    rw [if_pos hk]
  have hcmp : CmpLays1 Tryd.prog 20 #[.pointer (some ⟨gs, 0, none⟩)] (enV s) (cfV s) g (cn (8 * s)) (rows8 s).toArray.size w := by
    intro m os dk _ x y
    have hb2 : Blk (sortWorld (enV s) w g (cn (8 * s)) m dk os) gs 3 #[.int .i64 (s : Int)] := (sortWorld_heap _ _ _ _ _ _ _ hgs.lt hne).trans hgs
    refine (closure_any _ gs s hs hb2 x y).mono fun e w' ⟨he, hw⟩ => ⟨he, 0, #[], ?_⟩
    rw [hw, grow_empty]
    rfl
  have eg : ∀ args w, (callFunc 20 args).run Tryd.prog w = .ok (.enter 20 args) w := enters_of Tryd.func20 (by kernel_rfl) rfl
  have hS := Any.slices_SortFunc_total Tryd.sortL (enV s) (fun _ => rfl) (cfV s) (swoV s) 20 #[.pointer (some ⟨gs, 0, none⟩)] g (cn (8 * s)) (64 - cn (8 * s)) (rows8 s).toArray w eg hcmp hH hb.lt (by rw [hsz]; omega) (totV s)
  rw [hsz, sorted8_eq] at hS
  refine Calls.mono hS ?_
  rintro e w' ⟨he, n, os, rfl⟩
  refine ⟨he, sortWorld_only _ _ _ _ _ _ _, ?_⟩
  have hfin := sortWorld_blk (enV s) w g (cn (8 * s)) n (sorted8 s).toArray os hb
  have heq : putCells (enV s) (cn (8 * s)) (sorted8 s).toArray (arr .i64 64 (mid s (ct s))) = arr .i64 64 (upto (cn (8 * (s + 1))) (scV false)) := by
    apply Array.ext_getElem?
    intro i
    unfold putCells
    rw [Array.getElem?_mapIdx]
    by_cases hi : i < 64
    · rw [arr_get hi, arr_get hi]
      have hl : (sorted8 s).toArray.size = ct s := by simpa using sorted8_len f4
      simp only [Option.map_some, hl]
      by_cases hr : cn (8 * s) ≤ i ∧ i < cn (8 * s) + ct s
      · rw [if_pos hr]
        obtain ⟨k, rfl⟩ : ∃ k, i = cn (8 * s) + k := ⟨i - cn (8 * s), by omega⟩
        have hk : k < ct s := by omega
        rw [show cn (8 * s) + k - cn (8 * s) = k by omega]
        have hg := sorted8_get f4 hk
        have hv : (sorted8 s).toArray[k]! = ⟨if s % 2 = 0 then ct s - 1 - k else k, by split <;> omega⟩ := by
          rw [getElem!_pos _ _ (by rw [hl]; exact hk)]
          have h2 : (sorted8 s)[k]? = some ((sorted8 s)[k]'(by rw [sorted8_len f4]; exact hk)) := List.getElem?_eq_getElem _
          rw [hg] at h2
          injection h2 with h2
          simpa using h2.symm
        rw [hv]
        have hlt : (if s % 2 = 0 then ct s - 1 - k else k) < ct s := by split <;> omega
        unfold enV eV upto scV
        simp only
        rw [if_pos hlt, if_pos (show cn (8 * s) + k < cn (8 * (s + 1)) by omega), f5 k hk]
      · rw [if_neg hr]
        unfold mid upto
        by_cases h1 : i < cn (8 * s)
        · rw [if_pos h1, if_pos (by omega)]
        · rw [if_neg h1, if_neg (by omega), if_neg (by omega)]
    · rw [Array.getElem?_eq_none (by rw [arr_size]; omega), Array.getElem?_eq_none (by rw [arr_size]; omega)]
      rfl
  rw [heq] at hfin
  exact hfin
end Go.Proofs.YtmjjdehicngffaaDoor
